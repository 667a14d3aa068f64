import Derived.Test.YtdajnflppnlhiaaGreatProg
import Derived.Test.YtdajnflppnlhiaaGreatGA
set_option linter.unusedVariables false
set_option linter.unusedSimpArgs false
set_option maxRecDepth 10000
set_option maxHeartbeats 4000000
namespace GW
open Go Go.RowKit Go.Proofs
noncomputable section
def clo_call1.f : Clo → W1 → Option W1
  | .nil, _ => none
  | .c69 x0_, x1 => (state_State_Touch_1.f x0_ x1).bind fun r => some ((x1.1), r.2.1, x1.2.2.1, x1.2.2.2.1, x1.2.2.2.2.1, x1.2.2.2.2.2)
  | .c70 x0_ x1_, x1 => (state_State_TouchSlot_1.f x0_ x1_ x1).bind fun r => some ((x1.1), r.2.1, x1.2.2.1, x1.2.2.2.1, x1.2.2.2.2.1, x1.2.2.2.2.2)
  | .c72 x0_ x1_ x2_ x3_, x1 => (state_State_Set_1.f x0_ x1_ x2_ x3_ x1).bind fun r => some ((x1.1), r.2.1, x1.2.2.1, x1.2.2.2.1, x1.2.2.2.2.1, x1.2.2.2.2.2)
  | .c73 x0_ x1_, x1 => (state_State_SetNonce_1.f x0_ x1_ x1).bind fun r => some ((x1.1), r.2.1, x1.2.2.1, x1.2.2.2.1, x1.2.2.2.2.1, x1.2.2.2.2.2)
  | .c75 x0_ x1_, x1 => (state_State_SetBalance_1.f x0_ x1_ x1).bind fun r => some ((x1.1), r.2.1, x1.2.2.1, x1.2.2.2.1, x1.2.2.2.2.1, x1.2.2.2.2.2)
  | .c76 x0_ x1_, x1 => (state_State_SetCode_1.f x0_ x1_ x1).bind fun r => some ((x1.1), r.2.1, x1.2.2.1, x1.2.2.2.1, x1.2.2.2.2.1, x1.2.2.2.2.2)
  | .c77 x0_ x1_ x2_, x1 => (state_State_Make_1.f x0_ x1_ x2_ x1).bind fun r => some ((x1.1), r.2.1, x1.2.2.1, x1.2.2.2.1, x1.2.2.2.2.1, x1.2.2.2.2.2)
  | .c83 x0_ x1_, x1 => (state_State_Add_1.f x0_ x1_ x1).bind fun r => some ((x1.1), x1.2.1, r.2.2.1, x1.2.2.2.1, x1.2.2.2.2.1, x1.2.2.2.2.2)
  | .c84 x0_ x1_, x1 => (state_State_Log_1.f x0_ x1_ x1).bind fun r => some ((x1.1), x1.2.1, x1.2.2.1, r.2.2.2.1, x1.2.2.2.2.1, x1.2.2.2.2.2)
  | .c85 x0_ x1_, x1 => (state_State_Destroy_1.f x0_ x1_ x1).bind fun r => some ((x1.1), r.2.1, x1.2.2.1, x1.2.2.2.1, x1.2.2.2.2.1, x1.2.2.2.2.2)
theorem clo_call1.ok : ∀ (c : Clo) (cc : List Addr) (x1 : ((List L71)) × ((List ((List Int) × Option Nat)) × (List L110) × (List (List ((List Int) × (List Int)))) × (List (List ((List Int) × Bool)))) × Int × (List L100) × (List Clo) × (List (List Int))) (ch_0_0 : Nat) (ch_0_1 : Option Addr) (ch_0_2 : Nat) (ch_0_3 : Nat) (ch_0_4 : List Nat) (ch_0_5 : List Nat) (ch_0_6 : List Nat) (ch_0_7 : Option Addr) (ch_0_8 : Nat) (ch_0_9 : Nat) (ch_0_10 : Option Addr) (ch_0_11 : Nat) (ch_0_12 : Nat) (ch_0_13 : Option Addr) (ch_0_14 : Nat) (ch_0_15 : Nat) (r : W1) (h0 : clo_call1.f c x1 = some r) (mi : Mem) (w0 : World), cloR ch_0_0 ch_0_4 ch_0_5 ch_0_6 c cc mi → Pre mi [Res.cells ch_0_0 79 [.rf (.iface 75 (.agg (cellsOf [.sl ch_0_1 (x1.1).length ch_0_2 (RdS Y71 ch_0_1 x1.1)]).toArray)) (IfR [.sl ch_0_1 (x1.1).length ch_0_2 (RdS Y71 ch_0_1 x1.1)]), .one (.map (some ch_0_3)), .one (.int .i64 x1.2.2.1), .one (.slice ch_0_7 ch_0_8 ch_0_9), .one (.slice ch_0_10 ch_0_11 ch_0_12), .one (.slice ch_0_13 ch_0_14 ch_0_15)], Res.map true (Ty.arr .u8 20) false (Ty.pid ch_0_4) ch_0_3 x1.2.1.1, Res.fam (Res.struct (YE110 ch_0_5 ch_0_6) 110) (one_struct _ _) ch_0_4 [] x1.2.1.2.1, Res.fam (fun g_ kvs_ => Res.map true (Ty.arr .u64 4) true (Ty.arr .u64 4) g_ kvs_) (one_map true (Ty.arr .u64 4) true (Ty.arr .u64 4)) ch_0_5 [] x1.2.1.2.2.1, Res.fam (fun g_ kvs_ => Res.map true (Ty.arr .u64 4) false Ty.bool g_ kvs_) (one_map true (Ty.arr .u64 4) false Ty.bool) ch_0_6 [] x1.2.1.2.2.2, Res.row Y100 100 ch_0_7 ch_0_8 ch_0_9 x1.2.2.2.1, Res.row (YC ch_0_0 ch_0_4 ch_0_5 ch_0_6) 1 ch_0_10 ch_0_11 ch_0_12 x1.2.2.2.2.1, Res.row (Ty.arr .u8 20) 40 ch_0_13 ch_0_14 ch_0_15 x1.2.2.2.2.2] w0 → CallsV Tryz.prog (cloV c cc) w0 (RetX mi [Res.cells ch_0_0 79 [.rf (.iface 75 (.agg (cellsOf [.sl ch_0_1 (x1.1).length ch_0_2 (RdS Y71 ch_0_1 x1.1)]).toArray)) (IfR [.sl ch_0_1 (x1.1).length ch_0_2 (RdS Y71 ch_0_1 x1.1)]), .one (.map (some ch_0_3)), .one (.int .i64 x1.2.2.1), .one (.slice ch_0_7 ch_0_8 ch_0_9), .one (.slice ch_0_10 ch_0_11 ch_0_12), .one (.slice ch_0_13 ch_0_14 ch_0_15)], Res.map true (Ty.arr .u8 20) false (Ty.pid ch_0_4) ch_0_3 x1.2.1.1, Res.fam (Res.struct (YE110 ch_0_5 ch_0_6) 110) (one_struct _ _) ch_0_4 [] x1.2.1.2.1, Res.fam (fun g_ kvs_ => Res.map true (Ty.arr .u64 4) true (Ty.arr .u64 4) g_ kvs_) (one_map true (Ty.arr .u64 4) true (Ty.arr .u64 4)) ch_0_5 [] x1.2.1.2.2.1, Res.fam (fun g_ kvs_ => Res.map true (Ty.arr .u64 4) false Ty.bool g_ kvs_) (one_map true (Ty.arr .u64 4) false Ty.bool) ch_0_6 [] x1.2.1.2.2.2, Res.row Y100 100 ch_0_7 ch_0_8 ch_0_9 x1.2.2.2.1, Res.row (YC ch_0_0 ch_0_4 ch_0_5 ch_0_6) 1 ch_0_10 ch_0_11 ch_0_12 x1.2.2.2.2.1, Res.row (Ty.arr .u8 20) 40 ch_0_13 ch_0_14 ch_0_15 x1.2.2.2.2.2] (fun (_ : W14) => (.tup [] : D)) (fun (ch : W14) => [Res.cells ch_0_0 79 [.rf (.iface 75 (.agg (cellsOf [.sl ch.1 (r.1).length ch.2.1 (RdS Y71 ch.1 r.1)]).toArray)) (IfR [.sl ch.1 (r.1).length ch.2.1 (RdS Y71 ch.1 r.1)]), .one (.map (some ch.2.2.1)), .one (.int .i64 r.2.2.1), .one (.slice ch.2.2.2.2.2.2.1 ch.2.2.2.2.2.2.2.1 ch.2.2.2.2.2.2.2.2.1), .one (.slice ch.2.2.2.2.2.2.2.2.2.1 ch.2.2.2.2.2.2.2.2.2.2.1 ch.2.2.2.2.2.2.2.2.2.2.2.1), .one (.slice ch.2.2.2.2.2.2.2.2.2.2.2.2.1 ch.2.2.2.2.2.2.2.2.2.2.2.2.2.1 ch.2.2.2.2.2.2.2.2.2.2.2.2.2.2)], Res.map true (Ty.arr .u8 20) false (Ty.pid ch.2.2.2.1) ch.2.2.1 r.2.1.1, Res.fam (Res.struct (YE110 ch.2.2.2.2.1 ch.2.2.2.2.2.1) 110) (one_struct _ _) ch.2.2.2.1 [] r.2.1.2.1, Res.fam (fun g_ kvs_ => Res.map true (Ty.arr .u64 4) true (Ty.arr .u64 4) g_ kvs_) (one_map true (Ty.arr .u64 4) true (Ty.arr .u64 4)) ch.2.2.2.2.1 [] r.2.1.2.2.1, Res.fam (fun g_ kvs_ => Res.map true (Ty.arr .u64 4) false Ty.bool g_ kvs_) (one_map true (Ty.arr .u64 4) false Ty.bool) ch.2.2.2.2.2.1 [] r.2.1.2.2.2, Res.row Y100 100 ch.2.2.2.2.2.2.1 ch.2.2.2.2.2.2.2.1 ch.2.2.2.2.2.2.2.2.1 r.2.2.2.1, Res.row (YC ch_0_0 ch.2.2.2.1 ch.2.2.2.2.1 ch.2.2.2.2.2.1) 1 ch.2.2.2.2.2.2.2.2.2.1 ch.2.2.2.2.2.2.2.2.2.2.1 ch.2.2.2.2.2.2.2.2.2.2.2.1 r.2.2.2.2.1, Res.row (Ty.arr .u8 20) 40 ch.2.2.2.2.2.2.2.2.2.2.2.2.1 ch.2.2.2.2.2.2.2.2.2.2.2.2.2.1 ch.2.2.2.2.2.2.2.2.2.2.2.2.2.2 r.2.2.2.2.2]) w0)
  | .nil, _, _, _, _, _, _, _, _, _, _, _, _, _, _, _, _, _, _, _, h0, _, _, _, _ => (nomatch h0)
  | .c69 x0_, cc, x1, ch_0_0, ch_0_1, ch_0_2, ch_0_3, ch_0_4, ch_0_5, ch_0_6, ch_0_7, ch_0_8, ch_0_9, ch_0_10, ch_0_11, ch_0_12, ch_0_13, ch_0_14, ch_0_15, r, h0, mi, w0, hR, hm => by
    delta clo_call1.f at h0; obtain ⟨r1, e1, h1⟩ := bind_of h0
    obtain rfl := Option.some.inj h1
    exact ⟨69, [.pt (cA cc 0) (At (Ty.pid ch_0_4) (cA cc 0) x0_)], rfl, N69, (state_State_Touch_1.ok x0_ x1 (cA cc 0) ch_0_0 ch_0_1 ch_0_2 ch_0_3 ch_0_4 ch_0_5 ch_0_6 ch_0_7 ch_0_8 ch_0_9 ch_0_10 ch_0_11 ch_0_12 ch_0_13 ch_0_14 ch_0_15 r1 e1 mi w0 ⟨⟨hR.1, At.mono _ _ _⟩, trivial⟩ hm).mono fun e w' h => h.conv fun ch => ⟨((ch_0_1, ch_0_2, ch.1, ch.2.1, ch.2.2.1, ch.2.2.2, ch_0_7, ch_0_8, ch_0_9, ch_0_10, ch_0_11, ch_0_12, ch_0_13, ch_0_14, ch_0_15) : W14), rfl, rfl⟩⟩
  | .c70 x0_ x1_, cc, x1, ch_0_0, ch_0_1, ch_0_2, ch_0_3, ch_0_4, ch_0_5, ch_0_6, ch_0_7, ch_0_8, ch_0_9, ch_0_10, ch_0_11, ch_0_12, ch_0_13, ch_0_14, ch_0_15, r, h0, mi, w0, hR, hm => by
    delta clo_call1.f at h0; obtain ⟨r1, e1, h1⟩ := bind_of h0
    obtain rfl := Option.some.inj h1
    exact ⟨70, [.pt (cA cc 0) (At (Ty.pid ch_0_4) (cA cc 0) x0_), .pt (cA cc 1) (At (Ty.arr .u64 4) (cA cc 1) x1_)], rfl, N70, (state_State_TouchSlot_1.ok x0_ x1_ x1 (cA cc 0) (cA cc 1) ch_0_0 ch_0_1 ch_0_2 ch_0_3 ch_0_4 ch_0_5 ch_0_6 ch_0_7 ch_0_8 ch_0_9 ch_0_10 ch_0_11 ch_0_12 ch_0_13 ch_0_14 ch_0_15 r1 e1 mi w0 ⟨⟨hR.1, At.mono _ _ _⟩, ⟨hR.2.1, At.mono _ _ _⟩, trivial⟩ hm).mono fun e w' h => h.conv fun ch => ⟨((ch_0_1, ch_0_2, ch.1, ch.2.1, ch.2.2.1, ch.2.2.2, ch_0_7, ch_0_8, ch_0_9, ch_0_10, ch_0_11, ch_0_12, ch_0_13, ch_0_14, ch_0_15) : W14), rfl, rfl⟩⟩
  | .c72 x0_ x1_ x2_ x3_, cc, x1, ch_0_0, ch_0_1, ch_0_2, ch_0_3, ch_0_4, ch_0_5, ch_0_6, ch_0_7, ch_0_8, ch_0_9, ch_0_10, ch_0_11, ch_0_12, ch_0_13, ch_0_14, ch_0_15, r, h0, mi, w0, hR, hm => by
    delta clo_call1.f at h0; obtain ⟨r1, e1, h1⟩ := bind_of h0
    obtain rfl := Option.some.inj h1
    exact ⟨72, [.pt (cA cc 0) (At Ty.bool (cA cc 0) x0_), .pt (cA cc 1) (At (Ty.arr .u64 4) (cA cc 1) x1_), .pt (cA cc 2) (At (Ty.mid ch_0_5) (cA cc 2) x2_), .pt (cA cc 3) (At (Ty.arr .u64 4) (cA cc 3) x3_)], rfl, N72, (state_State_Set_1.ok x0_ x1_ x2_ x3_ x1 (cA cc 0) (cA cc 1) (cA cc 2) (cA cc 3) ch_0_0 ch_0_1 ch_0_2 ch_0_3 ch_0_4 ch_0_5 ch_0_6 ch_0_7 ch_0_8 ch_0_9 ch_0_10 ch_0_11 ch_0_12 ch_0_13 ch_0_14 ch_0_15 r1 e1 mi w0 ⟨⟨hR.1, At.mono _ _ _⟩, ⟨hR.2.1, At.mono _ _ _⟩, ⟨hR.2.2.1, At.mono _ _ _⟩, ⟨hR.2.2.2.1, At.mono _ _ _⟩, trivial⟩ hm).mono fun e w' h => h.conv fun ch => ⟨((ch_0_1, ch_0_2, ch.1, ch.2.1, ch.2.2.1, ch.2.2.2, ch_0_7, ch_0_8, ch_0_9, ch_0_10, ch_0_11, ch_0_12, ch_0_13, ch_0_14, ch_0_15) : W14), rfl, rfl⟩⟩
  | .c73 x0_ x1_, cc, x1, ch_0_0, ch_0_1, ch_0_2, ch_0_3, ch_0_4, ch_0_5, ch_0_6, ch_0_7, ch_0_8, ch_0_9, ch_0_10, ch_0_11, ch_0_12, ch_0_13, ch_0_14, ch_0_15, r, h0, mi, w0, hR, hm => by
    delta clo_call1.f at h0; obtain ⟨r1, e1, h1⟩ := bind_of h0
    obtain rfl := Option.some.inj h1
    exact ⟨73, [.pt (cA cc 0) (At (Ty.int .u64) (cA cc 0) x0_), .pt (cA cc 1) (At (Ty.pid ch_0_4) (cA cc 1) x1_)], rfl, N73, (state_State_SetNonce_1.ok x0_ x1_ x1 (cA cc 0) (cA cc 1) ch_0_0 ch_0_1 ch_0_2 ch_0_3 ch_0_4 ch_0_5 ch_0_6 ch_0_7 ch_0_8 ch_0_9 ch_0_10 ch_0_11 ch_0_12 ch_0_13 ch_0_14 ch_0_15 r1 e1 mi w0 ⟨⟨hR.1, At.mono _ _ _⟩, ⟨hR.2.1, At.mono _ _ _⟩, trivial⟩ hm).mono fun e w' h => h.conv fun ch => ⟨((ch_0_1, ch_0_2, ch.1, ch.2.1, ch.2.2.1, ch.2.2.2, ch_0_7, ch_0_8, ch_0_9, ch_0_10, ch_0_11, ch_0_12, ch_0_13, ch_0_14, ch_0_15) : W14), rfl, rfl⟩⟩
  | .c75 x0_ x1_, cc, x1, ch_0_0, ch_0_1, ch_0_2, ch_0_3, ch_0_4, ch_0_5, ch_0_6, ch_0_7, ch_0_8, ch_0_9, ch_0_10, ch_0_11, ch_0_12, ch_0_13, ch_0_14, ch_0_15, r, h0, mi, w0, hR, hm => by
    delta clo_call1.f at h0; obtain ⟨r1, e1, h1⟩ := bind_of h0
    obtain rfl := Option.some.inj h1
    exact ⟨75, [.pt (cA cc 0) (At (Ty.arr .u64 4) (cA cc 0) x0_), .pt (cA cc 1) (At (Ty.pid ch_0_4) (cA cc 1) x1_)], rfl, N75, (state_State_SetBalance_1.ok x0_ x1_ x1 (cA cc 0) (cA cc 1) ch_0_0 ch_0_1 ch_0_2 ch_0_3 ch_0_4 ch_0_5 ch_0_6 ch_0_7 ch_0_8 ch_0_9 ch_0_10 ch_0_11 ch_0_12 ch_0_13 ch_0_14 ch_0_15 r1 e1 mi w0 ⟨⟨hR.1, At.mono _ _ _⟩, ⟨hR.2.1, At.mono _ _ _⟩, trivial⟩ hm).mono fun e w' h => h.conv fun ch => ⟨((ch_0_1, ch_0_2, ch.1, ch.2.1, ch.2.2.1, ch.2.2.2, ch_0_7, ch_0_8, ch_0_9, ch_0_10, ch_0_11, ch_0_12, ch_0_13, ch_0_14, ch_0_15) : W14), rfl, rfl⟩⟩
  | .c76 x0_ x1_, cc, x1, ch_0_0, ch_0_1, ch_0_2, ch_0_3, ch_0_4, ch_0_5, ch_0_6, ch_0_7, ch_0_8, ch_0_9, ch_0_10, ch_0_11, ch_0_12, ch_0_13, ch_0_14, ch_0_15, r, h0, mi, w0, hR, hm => by
    delta clo_call1.f at h0; obtain ⟨r1, e1, h1⟩ := bind_of h0
    obtain rfl := Option.some.inj h1
    exact ⟨76, [.pt (cA cc 0) (At (Ty.slice (Ty.int .u8)) (cA cc 0) x0_), .pt (cA cc 1) (At (Ty.pid ch_0_4) (cA cc 1) x1_)], rfl, N76, (state_State_SetCode_1.ok x0_ x1_ x1 (cA cc 0) (cA cc 1) ch_0_0 ch_0_1 ch_0_2 ch_0_3 ch_0_4 ch_0_5 ch_0_6 ch_0_7 ch_0_8 ch_0_9 ch_0_10 ch_0_11 ch_0_12 ch_0_13 ch_0_14 ch_0_15 r1 e1 mi w0 ⟨⟨hR.1, At.mono _ _ _⟩, ⟨hR.2.1, At.mono _ _ _⟩, trivial⟩ hm).mono fun e w' h => h.conv fun ch => ⟨((ch_0_1, ch_0_2, ch.1, ch.2.1, ch.2.2.1, ch.2.2.2, ch_0_7, ch_0_8, ch_0_9, ch_0_10, ch_0_11, ch_0_12, ch_0_13, ch_0_14, ch_0_15) : W14), rfl, rfl⟩⟩
  | .c77 x0_ x1_ x2_, cc, x1, ch_0_0, ch_0_1, ch_0_2, ch_0_3, ch_0_4, ch_0_5, ch_0_6, ch_0_7, ch_0_8, ch_0_9, ch_0_10, ch_0_11, ch_0_12, ch_0_13, ch_0_14, ch_0_15, r, h0, mi, w0, hR, hm => by
    delta clo_call1.f at h0; obtain ⟨r1, e1, h1⟩ := bind_of h0
    obtain rfl := Option.some.inj h1
    exact ⟨77, [.pt (cA cc 0) (At Ty.bool (cA cc 0) x0_), .pt (cA cc 1) (At (Ty.mid ch_0_5) (cA cc 1) x1_), .pt (cA cc 2) (At (Ty.pid ch_0_4) (cA cc 2) x2_)], rfl, N77, (state_State_Make_1.ok x0_ x1_ x2_ x1 (cA cc 0) (cA cc 1) (cA cc 2) ch_0_0 ch_0_1 ch_0_2 ch_0_3 ch_0_4 ch_0_5 ch_0_6 ch_0_7 ch_0_8 ch_0_9 ch_0_10 ch_0_11 ch_0_12 ch_0_13 ch_0_14 ch_0_15 r1 e1 mi w0 ⟨⟨hR.1, At.mono _ _ _⟩, ⟨hR.2.1, At.mono _ _ _⟩, ⟨hR.2.2.1, At.mono _ _ _⟩, trivial⟩ hm).mono fun e w' h => h.conv fun ch => ⟨((ch_0_1, ch_0_2, ch.1, ch.2.1, ch.2.2.1, ch.2.2.2, ch_0_7, ch_0_8, ch_0_9, ch_0_10, ch_0_11, ch_0_12, ch_0_13, ch_0_14, ch_0_15) : W14), rfl, rfl⟩⟩
  | .c83 x0_ x1_, cc, x1, ch_0_0, ch_0_1, ch_0_2, ch_0_3, ch_0_4, ch_0_5, ch_0_6, ch_0_7, ch_0_8, ch_0_9, ch_0_10, ch_0_11, ch_0_12, ch_0_13, ch_0_14, ch_0_15, r, h0, mi, w0, hR, hm => by
    delta clo_call1.f at h0; obtain ⟨r1, e1, h1⟩ := bind_of h0
    obtain rfl := Option.some.inj h1
    exact ⟨83, [.pt (cA cc 0) (At (Ty.int .i64) (cA cc 0) x0_), .pt (cA cc 1) (At (Ty.own ch_0_0) (cA cc 1) x1_)], rfl, N83, (state_State_Add_1.ok x0_ x1_ x1 (cA cc 0) (cA cc 1) ch_0_0 ch_0_1 ch_0_2 ch_0_3 ch_0_4 ch_0_5 ch_0_6 ch_0_7 ch_0_8 ch_0_9 ch_0_10 ch_0_11 ch_0_12 ch_0_13 ch_0_14 ch_0_15 r1 e1 mi w0 ⟨⟨hR.1, At.mono _ _ _⟩, ⟨hR.2.1, At.mono _ _ _⟩, trivial⟩ hm).mono fun e w' h => h.conv fun ch => ⟨((ch_0_1, ch_0_2, ch_0_3, ch_0_4, ch_0_5, ch_0_6, ch_0_7, ch_0_8, ch_0_9, ch_0_10, ch_0_11, ch_0_12, ch_0_13, ch_0_14, ch_0_15) : W14), rfl, rfl⟩⟩
  | .c84 x0_ x1_, cc, x1, ch_0_0, ch_0_1, ch_0_2, ch_0_3, ch_0_4, ch_0_5, ch_0_6, ch_0_7, ch_0_8, ch_0_9, ch_0_10, ch_0_11, ch_0_12, ch_0_13, ch_0_14, ch_0_15, r, h0, mi, w0, hR, hm => by
    delta clo_call1.f at h0; obtain ⟨r1, e1, h1⟩ := bind_of h0
    obtain rfl := Option.some.inj h1
    exact ⟨84, [.pt (cA cc 0) (At (Ty.own ch_0_0) (cA cc 0) x0_), .pt (cA cc 1) (At (Ty.int .i64) (cA cc 1) x1_)], rfl, N84, (state_State_Log_1.ok x0_ x1_ x1 (cA cc 0) (cA cc 1) ch_0_0 ch_0_1 ch_0_2 ch_0_3 ch_0_4 ch_0_5 ch_0_6 ch_0_7 ch_0_8 ch_0_9 ch_0_10 ch_0_11 ch_0_12 ch_0_13 ch_0_14 ch_0_15 r1 e1 mi w0 ⟨⟨hR.1, At.mono _ _ _⟩, ⟨hR.2.1, At.mono _ _ _⟩, trivial⟩ hm).mono fun e w' h => h.conv fun ch => ⟨((ch_0_1, ch_0_2, ch_0_3, ch_0_4, ch_0_5, ch_0_6, ch.1, ch.2.1, ch.2.2, ch_0_10, ch_0_11, ch_0_12, ch_0_13, ch_0_14, ch_0_15) : W14), rfl, rfl⟩⟩
  | .c85 x0_ x1_, cc, x1, ch_0_0, ch_0_1, ch_0_2, ch_0_3, ch_0_4, ch_0_5, ch_0_6, ch_0_7, ch_0_8, ch_0_9, ch_0_10, ch_0_11, ch_0_12, ch_0_13, ch_0_14, ch_0_15, r, h0, mi, w0, hR, hm => by
    delta clo_call1.f at h0; obtain ⟨r1, e1, h1⟩ := bind_of h0
    obtain rfl := Option.some.inj h1
    exact ⟨85, [.pt (cA cc 0) (At Ty.bool (cA cc 0) x0_), .pt (cA cc 1) (At (Ty.pid ch_0_4) (cA cc 1) x1_)], rfl, N85, (state_State_Destroy_1.ok x0_ x1_ x1 (cA cc 0) (cA cc 1) ch_0_0 ch_0_1 ch_0_2 ch_0_3 ch_0_4 ch_0_5 ch_0_6 ch_0_7 ch_0_8 ch_0_9 ch_0_10 ch_0_11 ch_0_12 ch_0_13 ch_0_14 ch_0_15 r1 e1 mi w0 ⟨⟨hR.1, At.mono _ _ _⟩, ⟨hR.2.1, At.mono _ _ _⟩, trivial⟩ hm).mono fun e w' h => h.conv fun ch => ⟨((ch_0_1, ch_0_2, ch.1, ch.2.1, ch.2.2.1, ch.2.2.2, ch_0_7, ch_0_8, ch_0_9, ch_0_10, ch_0_11, ch_0_12, ch_0_13, ch_0_14, ch_0_15) : W14), rfl, rfl⟩⟩
abbrev state_State_Back.Ty : Type := W1 → Int → Option W1
def state_State_Back.Ctr (s : state_State_Back.Ty) : Prop := ∀ (x1 : W1) (x2 : Int) (ch_0_0 : Nat) (ch_0_1 : Option Addr) (ch_0_2 : Nat) (ch_0_3 : Nat) (ch_0_4 : List Nat) (ch_0_5 : List Nat) (ch_0_6 : List Nat) (ch_0_7 : Option Addr) (ch_0_8 : Nat) (ch_0_9 : Nat) (ch_0_10 : Option Addr) (ch_0_11 : Nat) (ch_0_12 : Nat) (ch_0_13 : Option Addr) (ch_0_14 : Nat) (ch_0_15 : Nat) (r : W1) (h0 : s x1 x2 = some r) (mi : Mem) (w0 : World), okL mi [(.v (.pointer (some ⟨ch_0_0, 0, none⟩))), (.v (.int .i64 x2))] → Pre mi [Res.cells ch_0_0 79 [.rf (.iface 75 (.agg (cellsOf [.sl ch_0_1 (x1.1).length ch_0_2 (RdS Y71 ch_0_1 x1.1)]).toArray)) (IfR [.sl ch_0_1 (x1.1).length ch_0_2 (RdS Y71 ch_0_1 x1.1)]), .one (.map (some ch_0_3)), .one (.int .i64 x1.2.2.1), .one (.slice ch_0_7 ch_0_8 ch_0_9), .one (.slice ch_0_10 ch_0_11 ch_0_12), .one (.slice ch_0_13 ch_0_14 ch_0_15)], Res.map true (Ty.arr .u8 20) false (Ty.pid ch_0_4) ch_0_3 x1.2.1.1, Res.fam (Res.struct (YE110 ch_0_5 ch_0_6) 110) (one_struct _ _) ch_0_4 [] x1.2.1.2.1, Res.fam (fun g_ kvs_ => Res.map true (Ty.arr .u64 4) true (Ty.arr .u64 4) g_ kvs_) (one_map true (Ty.arr .u64 4) true (Ty.arr .u64 4)) ch_0_5 [] x1.2.1.2.2.1, Res.fam (fun g_ kvs_ => Res.map true (Ty.arr .u64 4) false Ty.bool g_ kvs_) (one_map true (Ty.arr .u64 4) false Ty.bool) ch_0_6 [] x1.2.1.2.2.2, Res.row Y100 100 ch_0_7 ch_0_8 ch_0_9 x1.2.2.2.1, Res.row (YC ch_0_0 ch_0_4 ch_0_5 ch_0_6) 1 ch_0_10 ch_0_11 ch_0_12 x1.2.2.2.2.1, Res.row (Ty.arr .u8 20) 40 ch_0_13 ch_0_14 ch_0_15 x1.2.2.2.2.2] w0 → Calls Tryz.prog 14 (([(.v (.pointer (some ⟨ch_0_0, 0, none⟩))), (.v (.int .i64 x2))] : List D).map D.val).toArray w0 (RetX mi [Res.cells ch_0_0 79 [.rf (.iface 75 (.agg (cellsOf [.sl ch_0_1 (x1.1).length ch_0_2 (RdS Y71 ch_0_1 x1.1)]).toArray)) (IfR [.sl ch_0_1 (x1.1).length ch_0_2 (RdS Y71 ch_0_1 x1.1)]), .one (.map (some ch_0_3)), .one (.int .i64 x1.2.2.1), .one (.slice ch_0_7 ch_0_8 ch_0_9), .one (.slice ch_0_10 ch_0_11 ch_0_12), .one (.slice ch_0_13 ch_0_14 ch_0_15)], Res.map true (Ty.arr .u8 20) false (Ty.pid ch_0_4) ch_0_3 x1.2.1.1, Res.fam (Res.struct (YE110 ch_0_5 ch_0_6) 110) (one_struct _ _) ch_0_4 [] x1.2.1.2.1, Res.fam (fun g_ kvs_ => Res.map true (Ty.arr .u64 4) true (Ty.arr .u64 4) g_ kvs_) (one_map true (Ty.arr .u64 4) true (Ty.arr .u64 4)) ch_0_5 [] x1.2.1.2.2.1, Res.fam (fun g_ kvs_ => Res.map true (Ty.arr .u64 4) false Ty.bool g_ kvs_) (one_map true (Ty.arr .u64 4) false Ty.bool) ch_0_6 [] x1.2.1.2.2.2, Res.row Y100 100 ch_0_7 ch_0_8 ch_0_9 x1.2.2.2.1, Res.row (YC ch_0_0 ch_0_4 ch_0_5 ch_0_6) 1 ch_0_10 ch_0_11 ch_0_12 x1.2.2.2.2.1, Res.row (Ty.arr .u8 20) 40 ch_0_13 ch_0_14 ch_0_15 x1.2.2.2.2.2] (fun (ch : W14) => ((.tup []) : D)) (fun (ch : W14) => [Res.cells ch_0_0 79 [.rf (.iface 75 (.agg (cellsOf [.sl ch.1 (r.1).length ch.2.1 (RdS Y71 ch.1 r.1)]).toArray)) (IfR [.sl ch.1 (r.1).length ch.2.1 (RdS Y71 ch.1 r.1)]), .one (.map (some ch.2.2.1)), .one (.int .i64 r.2.2.1), .one (.slice ch.2.2.2.2.2.2.1 ch.2.2.2.2.2.2.2.1 ch.2.2.2.2.2.2.2.2.1), .one (.slice ch.2.2.2.2.2.2.2.2.2.1 ch.2.2.2.2.2.2.2.2.2.2.1 ch.2.2.2.2.2.2.2.2.2.2.2.1), .one (.slice ch.2.2.2.2.2.2.2.2.2.2.2.2.1 ch.2.2.2.2.2.2.2.2.2.2.2.2.2.1 ch.2.2.2.2.2.2.2.2.2.2.2.2.2.2)], Res.map true (Ty.arr .u8 20) false (Ty.pid ch.2.2.2.1) ch.2.2.1 r.2.1.1, Res.fam (Res.struct (YE110 ch.2.2.2.2.1 ch.2.2.2.2.2.1) 110) (one_struct _ _) ch.2.2.2.1 [] r.2.1.2.1, Res.fam (fun g_ kvs_ => Res.map true (Ty.arr .u64 4) true (Ty.arr .u64 4) g_ kvs_) (one_map true (Ty.arr .u64 4) true (Ty.arr .u64 4)) ch.2.2.2.2.1 [] r.2.1.2.2.1, Res.fam (fun g_ kvs_ => Res.map true (Ty.arr .u64 4) false Ty.bool g_ kvs_) (one_map true (Ty.arr .u64 4) false Ty.bool) ch.2.2.2.2.2.1 [] r.2.1.2.2.2, Res.row Y100 100 ch.2.2.2.2.2.2.1 ch.2.2.2.2.2.2.2.1 ch.2.2.2.2.2.2.2.2.1 r.2.2.2.1, Res.row (YC ch_0_0 ch.2.2.2.1 ch.2.2.2.2.1 ch.2.2.2.2.2.1) 1 ch.2.2.2.2.2.2.2.2.2.1 ch.2.2.2.2.2.2.2.2.2.2.1 ch.2.2.2.2.2.2.2.2.2.2.2.1 r.2.2.2.2.1, Res.row (Ty.arr .u8 20) 40 ch.2.2.2.2.2.2.2.2.2.2.2.2.1 ch.2.2.2.2.2.2.2.2.2.2.2.2.2.1 ch.2.2.2.2.2.2.2.2.2.2.2.2.2.2 r.2.2.2.2.2]) w0)
def state_State_Back.b1 (x2 : Int) (rec1 : Int → (List L71) → W15 → (List L110) → W16 → W17 → Int → (List L100) → (List Clo) → (List (List Int)) → Option W1) (y1 : Int) (y2 : List L71) (y3 : W15) (y4 : List L110) (y5 : W16) (y6 : W17) (y7 : Int) (y8 : List L100) (y9 : List Clo) (y10 : List (List Int)) : Option W1 := if (decide (x2 < y1)) = true then (if (0 : Int) ≤ (wr .i64 (y1 - 1)) ∧ (wr .i64 (y1 - 1)) < ((y9).length : Int) then ((clo_call1.f (gt y9 (wr .i64 (y1 - 1))) ((y2), (y3, y4, y5, y6), y7, y8, y9, y10)).bind fun t4 => (if (0 : Int) ≤ (wr .i64 (y1 - 1)) ∧ (wr .i64 (y1 - 1)) ≤ ((t4.2.2.2.2.1).length : Int) then (rec1 (wr .i64 (y1 - 1)) t4.1 t4.2.1.1 t4.2.1.2.1 t4.2.1.2.2.1 t4.2.1.2.2.2 t4.2.2.1 t4.2.2.2.1 (t4.2.2.2.2.1.take (Int.toNat (wr .i64 (y1 - 1)))) t4.2.2.2.2.2) else none)) else none) else (some ((y2), (y3, y4, y5, y6), y7, y8, y9, y10))
def state_State_Back.l1 (x2 : Int) : Nat → Int → (List L71) → W15 → (List L110) → W16 → W17 → Int → (List L100) → (List Clo) → (List (List Int)) → Option W1
  | 0, _, _, _, _, _, _, _, _, _, _ => none
  | q + 1, y1, y2, y3, y4, y5, y6, y7, y8, y9, y10 => state_State_Back.b1 x2 (state_State_Back.l1 x2 q) y1 y2 y3 y4 y5 y6 y7 y8 y9 y10
def state_State_Back.f (k : Nat) (x1 : W1) (x2 : Int) : Option W1 := if (decide (x2 < 0)) = true then (some ((x1.1), x1.2.1, x1.2.2.1, x1.2.2.2.1, x1.2.2.2.2.1, x1.2.2.2.2.2)) else ((state_State_Mark.f ((x1.1), x1.2.1, x1.2.2.1, x1.2.2.2.1, x1.2.2.2.2.1, x1.2.2.2.2.2)).bind fun t1 => (state_State_Back.l1 x2 k t1 x1.1 x1.2.1.1 x1.2.1.2.1 x1.2.1.2.2.1 x1.2.1.2.2.2 x1.2.2.1 x1.2.2.2.1 x1.2.2.2.2.1 x1.2.2.2.2.2))
theorem state_State_Back.ok (k : Nat) : state_State_Back.Ctr (state_State_Back.f k) := by
 intro x1 x2 ch_0_0 ch_0_1 ch_0_2 ch_0_3 ch_0_4 ch_0_5 ch_0_6 ch_0_7 ch_0_8 ch_0_9 ch_0_10 ch_0_11 ch_0_12 ch_0_13 ch_0_14 ch_0_15 r h0 mi w0 ok hm
 delta state_State_Back.f at h0
 refine c_enterX (n := 33) [(.v (.pointer (some ⟨ch_0_0, 0, none⟩))), (.v (.int .i64 x2))] (l := [(0, (.v (.pointer (some ⟨ch_0_0, 0, none⟩)))), (1, (.v (.int .i64 x2)))]) Tryz.func14 rfl rfl rfl rfl ok hm ?_
 clear ok hm
 intro b0 hb a S
 refine wp_seq ?_
 refine c_region ?_
 refine s_move S rfl rfl ?_; clear S a; intro a S
 refine s_bin S rfl rfl rfl rfl ?_; clear S a; intro a S
 refine c_end ?_
 rcases ite_of h0 with ⟨c1, h1⟩ | ⟨c1, h1⟩ <;> clear h0
 ·refine c_condT S rfl c1 ?_
  refine wp_ret ?_
  refine x_thenR ?_
  obtain rfl := Option.some.inj h1
  exact b_ret0 S rfl (S.retX (Hx := []) hb _ _ ((ch_0_1, ch_0_2, ch_0_3, ch_0_4, ch_0_5, ch_0_6, ch_0_7, ch_0_8, ch_0_9, ch_0_10, ch_0_11, ch_0_12, ch_0_13, ch_0_14, ch_0_15) : W14) (.cons .here (.cons .here (.cons .here (.cons .here (.cons .here (.cons .here (.cons .here (.cons .here .nil)))))))) trivial)
 ·refine c_condF S rfl c1 ?_
  refine wp_skip ?_
  refine x_thenN ?_
  refine c_region ?_
  refine s_move S rfl rfl ?_; clear S a; intro a S
  obtain ⟨t1, et1, h2⟩ := bind_of h1; clear h1
  refine s_callX S (ds' := [(.v (.pointer (some ⟨ch_0_0, 0, none⟩)))]) (ds := [(.v (.pointer (some ⟨ch_0_0, 0, none⟩)))]) [Res.cells ch_0_0 79 [.rf (.iface 75 (.agg (cellsOf [.sl ch_0_1 (x1.1).length ch_0_2 (RdS Y71 ch_0_1 x1.1)]).toArray)) (IfR [.sl ch_0_1 (x1.1).length ch_0_2 (RdS Y71 ch_0_1 x1.1)]), .one (.map (some ch_0_3)), .one (.int .i64 x1.2.2.1), .one (.slice ch_0_7 ch_0_8 ch_0_9), .one (.slice ch_0_10 ch_0_11 ch_0_12), .one (.slice ch_0_13 ch_0_14 ch_0_15)], Res.map true (Ty.arr .u8 20) false (Ty.pid ch_0_4) ch_0_3 x1.2.1.1, Res.fam (Res.struct (YE110 ch_0_5 ch_0_6) 110) (one_struct _ _) ch_0_4 [] x1.2.1.2.1, Res.fam (fun g_ kvs_ => Res.map true (Ty.arr .u64 4) true (Ty.arr .u64 4) g_ kvs_) (one_map true (Ty.arr .u64 4) true (Ty.arr .u64 4)) ch_0_5 [] x1.2.1.2.2.1, Res.fam (fun g_ kvs_ => Res.map true (Ty.arr .u64 4) false Ty.bool g_ kvs_) (one_map true (Ty.arr .u64 4) false Ty.bool) ch_0_6 [] x1.2.1.2.2.2, Res.row Y100 100 ch_0_7 ch_0_8 ch_0_9 x1.2.2.2.1, Res.row (YC ch_0_0 ch_0_4 ch_0_5 ch_0_6) 1 ch_0_10 ch_0_11 ch_0_12 x1.2.2.2.2.1, Res.row (Ty.arr .u8 20) 40 ch_0_13 ch_0_14 ch_0_15 x1.2.2.2.2.2] [] (fun (ch : Unit) => ((.v (.int .i64 t1)) : D)) (fun (ch : Unit) => [Res.cells ch_0_0 79 [.rf (.iface 75 (.agg (cellsOf [.sl ch_0_1 (x1.1).length ch_0_2 (RdS Y71 ch_0_1 x1.1)]).toArray)) (IfR [.sl ch_0_1 (x1.1).length ch_0_2 (RdS Y71 ch_0_1 x1.1)]), .one (.map (some ch_0_3)), .one (.int .i64 x1.2.2.1), .one (.slice ch_0_7 ch_0_8 ch_0_9), .one (.slice ch_0_10 ch_0_11 ch_0_12), .one (.slice ch_0_13 ch_0_14 ch_0_15)], Res.map true (Ty.arr .u8 20) false (Ty.pid ch_0_4) ch_0_3 x1.2.1.1, Res.fam (Res.struct (YE110 ch_0_5 ch_0_6) 110) (one_struct _ _) ch_0_4 [] x1.2.1.2.1, Res.fam (fun g_ kvs_ => Res.map true (Ty.arr .u64 4) true (Ty.arr .u64 4) g_ kvs_) (one_map true (Ty.arr .u64 4) true (Ty.arr .u64 4)) ch_0_5 [] x1.2.1.2.2.1, Res.fam (fun g_ kvs_ => Res.map true (Ty.arr .u64 4) false Ty.bool g_ kvs_) (one_map true (Ty.arr .u64 4) false Ty.bool) ch_0_6 [] x1.2.1.2.2.2, Res.row Y100 100 ch_0_7 ch_0_8 ch_0_9 x1.2.2.2.1, Res.row (YC ch_0_0 ch_0_4 ch_0_5 ch_0_6) 1 ch_0_10 ch_0_11 ch_0_12 x1.2.2.2.2.1, Res.row (Ty.arr .u8 20) 40 ch_0_13 ch_0_14 ch_0_15 x1.2.2.2.2.2]) (fun (ch : Unit) => [Res.cells ch_0_0 79 [.rf (.iface 75 (.agg (cellsOf [.sl ch_0_1 (x1.1).length ch_0_2 (RdS Y71 ch_0_1 x1.1)]).toArray)) (IfR [.sl ch_0_1 (x1.1).length ch_0_2 (RdS Y71 ch_0_1 x1.1)]), .one (.map (some ch_0_3)), .one (.int .i64 x1.2.2.1), .one (.slice ch_0_7 ch_0_8 ch_0_9), .one (.slice ch_0_10 ch_0_11 ch_0_12), .one (.slice ch_0_13 ch_0_14 ch_0_15)], Res.map true (Ty.arr .u8 20) false (Ty.pid ch_0_4) ch_0_3 x1.2.1.1, Res.fam (Res.struct (YE110 ch_0_5 ch_0_6) 110) (one_struct _ _) ch_0_4 [] x1.2.1.2.1, Res.fam (fun g_ kvs_ => Res.map true (Ty.arr .u64 4) true (Ty.arr .u64 4) g_ kvs_) (one_map true (Ty.arr .u64 4) true (Ty.arr .u64 4)) ch_0_5 [] x1.2.1.2.2.1, Res.fam (fun g_ kvs_ => Res.map true (Ty.arr .u64 4) false Ty.bool g_ kvs_) (one_map true (Ty.arr .u64 4) false Ty.bool) ch_0_6 [] x1.2.1.2.2.2, Res.row Y100 100 ch_0_7 ch_0_8 ch_0_9 x1.2.2.2.1, Res.row (YC ch_0_0 ch_0_4 ch_0_5 ch_0_6) 1 ch_0_10 ch_0_11 ch_0_12 x1.2.2.2.2.1, Res.row (Ty.arr .u8 20) 40 ch_0_13 ch_0_14 ch_0_15 x1.2.2.2.2.2]) (fun _ => rfl) N13 rfl rfl (fun ok => ok) (.cons .here (.cons .here (.cons .here (.cons .here (.cons .here (.cons .here (.cons .here (.cons .here .nil)))))))) rfl (state_State_Mark.ok ((x1.1), x1.2.1, x1.2.2.1, x1.2.2.2.1, x1.2.2.2.2.1, x1.2.2.2.2.2) ch_0_0 ch_0_1 ch_0_2 ch_0_3 ch_0_4 ch_0_5 ch_0_6 ch_0_7 ch_0_8 ch_0_9 ch_0_10 ch_0_11 ch_0_12 ch_0_13 ch_0_14 ch_0_15 t1 et1 _ _) ?_; clear S a; intro ch1 m le1 a w S
  refine s_assign S rfl rfl ?_; clear S a; intro a S
  refine c_end ?_
  refine wp_block ?_
  refine c_loop (fun q1 a w => ∃ (m : Mem) (y1 : Int) (A1 : Option Addr) (cp1 : Nat) (y2 : List L71) (g1 : Nat) (y3 : List ((List Int) × Option Nat)) (G1 : List Nat) (G2 : List Nat) (G3 : List Nat) (y4 : List L110) (y5 : List (List ((List Int) × (List Int)))) (y6 : List (List ((List Int) × Bool))) (y7 : Int) (A2 : Option Addr) (nn1 : Nat) (cp2 : Nat) (y8 : List L100) (A3 : Option Addr) (nn2 : Nat) (cp3 : Nat) (y9 : List Clo) (A4 : Option Addr) (nn3 : Nat) (cp4 : Nat) (y10 : List (List Int)), St 33 m b0 [(4, (.v (.int .i64 y1))), (0, (.v (.pointer (some ⟨ch_0_0, 0, none⟩)))), (1, (.v (.int .i64 x2)))] [Res.cells ch_0_0 79 [.rf (.iface 75 (.agg (cellsOf [.sl A1 (y2).length cp1 (RdS Y71 A1 y2)]).toArray)) (IfR [.sl A1 (y2).length cp1 (RdS Y71 A1 y2)]), .one (.map (some g1)), .one (.int .i64 y7), .one (.slice A2 nn1 cp2), .one (.slice A3 nn2 cp3), .one (.slice A4 nn3 cp4)], Res.map true (Ty.arr .u8 20) false (Ty.pid G1) g1 y3, Res.fam (Res.struct (YE110 G2 G3) 110) (one_struct _ _) G1 [] y4, Res.fam (fun g_ kvs_ => Res.map true (Ty.arr .u64 4) true (Ty.arr .u64 4) g_ kvs_) (one_map true (Ty.arr .u64 4) true (Ty.arr .u64 4)) G2 [] y5, Res.fam (fun g_ kvs_ => Res.map true (Ty.arr .u64 4) false Ty.bool g_ kvs_) (one_map true (Ty.arr .u64 4) false Ty.bool) G3 [] y6, Res.row Y100 100 A2 nn1 cp2 y8, Res.row (YC ch_0_0 G1 G2 G3) 1 A3 nn2 cp3 y9, Res.row (Ty.arr .u8 20) 40 A4 nn3 cp4 y10] a w ∧ state_State_Back.l1 x2 q1 y1 y2 y3 y4 y5 y6 y7 y8 y9 y10 = some r) ?_ ?_ (k := k) ⟨_, t1, ch_0_1, ch_0_2, x1.1, ch_0_3, x1.2.1.1, ch_0_4, ch_0_5, ch_0_6, x1.2.1.2.1, x1.2.1.2.2.1, x1.2.1.2.2.2, x1.2.2.1, ch_0_7, ch_0_8, ch_0_9, x1.2.2.2.1, ch_0_10, ch_0_11, ch_0_12, x1.2.2.2.2.1, ch_0_13, ch_0_14, ch_0_15, x1.2.2.2.2.2, (S.sub (subR rfl) (.cons .here (.cons .here (.cons .here (.cons .here (.cons .here (.cons .here (.cons .here (.cons .here .nil))))))))), h2⟩
  ·rintro a w ⟨m, y1, A1, cp1, y2, g1, y3, G1, G2, G3, y4, y5, y6, y7, A2, nn1, cp2, y8, A3, nn2, cp3, y9, A4, nn3, cp4, y10, S, h0⟩
   exact (nomatch (show (none : Option W1) = some r from h0))
  ·clear S h2
   rintro q1 a w ⟨m, y1, A1, cp1, y2, g1, y3, G1, G2, G3, y4, y5, y6, y7, A2, nn1, cp2, y8, A3, nn2, cp3, y9, A4, nn3, cp4, y10, S, h0⟩
   replace h0 : state_State_Back.b1 x2 (state_State_Back.l1 x2 q1) y1 y2 y3 y4 y5 y6 y7 y8 y9 y10 = some r := h0
   delta state_State_Back.b1 at h0
   refine wp_seq ?_
   refine c_region ?_
   refine s_move S rfl rfl ?_; clear S a; intro a S
   refine s_move S rfl rfl ?_; clear S a; intro a S
   refine s_bin S rfl rfl rfl rfl ?_; clear S a; intro a S
   refine c_end ?_
   rcases ite_of h0 with ⟨c2, h1⟩ | ⟨c2, h1⟩ <;> clear h0
   ·refine c_condT S rfl c2 ?_
    refine wp_skip ?_
    refine x_thenN ?_
    refine wp_seq ?_
    refine wp_block ?_
    refine c_region ?_
    refine s_move S rfl rfl ?_; clear S a; intro a S
    refine s_nilchk S rfl rfl ?_; clear S a; intro a S
    refine s_fieldAddr S rfl I79_4 T77 (by decide) rfl rfl ?_; clear S a; intro a S
    refine s_load1 S rfl .here T77 (v := (.slice A3 nn2 cp3)) rfl rfl ?_; clear S a; intro a S
    refine s_move S rfl rfl ?_; clear S a; intro a S
    refine s_bin S rfl rfl rfl rfl ?_; clear S a; intro a S
    obtain ⟨c3, h2⟩ := chk_of h1; clear h1
    refine s_iaddrO S (ty' := (YC ch_0_0 G1 G2 G3)) rfl (.there (.there (.there (.there (.there (.there .here)))))) rfl Tryz.underlying77 T1 c3.1 c3.2 rfl ?_; clear S a; intro g2 a hA1 S
    refine s_ldRF S (ty' := (YC ch_0_0 G1 G2 G3)) (i := (wr .i64 (y1 - 1))) (off := 0) (fun (c : List Addr) => cloV (gt y9 (wr .i64 (y1 - 1))) c) (fun (c : List Addr) => cloR ch_0_0 G1 G2 G3 (gt y9 (wr .i64 (y1 - 1))) c) rfl hA1 (.there (.there (.there (.there (.there (.there .here)))))) T1 c3.1 c3.2 rfl (fun _ => rfl) rfl ?_; clear S a; intro ch6 a S
    obtain ⟨t4, et4, h3⟩ := bind_of h2; clear h2
    refine s_callV S [Res.cells ch_0_0 79 [.rf (.iface 75 (.agg (cellsOf [.sl A1 (y2).length cp1 (RdS Y71 A1 y2)]).toArray)) (IfR [.sl A1 (y2).length cp1 (RdS Y71 A1 y2)]), .one (.map (some g1)), .one (.int .i64 y7), .one (.slice A2 nn1 cp2), .one (.slice A3 nn2 cp3), .one (.slice A4 nn3 cp4)], Res.map true (Ty.arr .u8 20) false (Ty.pid G1) g1 y3, Res.fam (Res.struct (YE110 G2 G3) 110) (one_struct _ _) G1 [] y4, Res.fam (fun g_ kvs_ => Res.map true (Ty.arr .u64 4) true (Ty.arr .u64 4) g_ kvs_) (one_map true (Ty.arr .u64 4) true (Ty.arr .u64 4)) G2 [] y5, Res.fam (fun g_ kvs_ => Res.map true (Ty.arr .u64 4) false Ty.bool g_ kvs_) (one_map true (Ty.arr .u64 4) false Ty.bool) G3 [] y6, Res.row Y100 100 A2 nn1 cp2 y8, Res.row (YC ch_0_0 G1 G2 G3) 1 A3 nn2 cp3 y9, Res.row (Ty.arr .u8 20) 40 A4 nn3 cp4 y10] [] (fun (ch : W14) => [Res.cells ch_0_0 79 [.rf (.iface 75 (.agg (cellsOf [.sl ch.1 (t4.1).length ch.2.1 (RdS Y71 ch.1 t4.1)]).toArray)) (IfR [.sl ch.1 (t4.1).length ch.2.1 (RdS Y71 ch.1 t4.1)]), .one (.map (some ch.2.2.1)), .one (.int .i64 t4.2.2.1), .one (.slice ch.2.2.2.2.2.2.1 ch.2.2.2.2.2.2.2.1 ch.2.2.2.2.2.2.2.2.1), .one (.slice ch.2.2.2.2.2.2.2.2.2.1 ch.2.2.2.2.2.2.2.2.2.2.1 ch.2.2.2.2.2.2.2.2.2.2.2.1), .one (.slice ch.2.2.2.2.2.2.2.2.2.2.2.2.1 ch.2.2.2.2.2.2.2.2.2.2.2.2.2.1 ch.2.2.2.2.2.2.2.2.2.2.2.2.2.2)], Res.map true (Ty.arr .u8 20) false (Ty.pid ch.2.2.2.1) ch.2.2.1 t4.2.1.1, Res.fam (Res.struct (YE110 ch.2.2.2.2.1 ch.2.2.2.2.2.1) 110) (one_struct _ _) ch.2.2.2.1 [] t4.2.1.2.1, Res.fam (fun g_ kvs_ => Res.map true (Ty.arr .u64 4) true (Ty.arr .u64 4) g_ kvs_) (one_map true (Ty.arr .u64 4) true (Ty.arr .u64 4)) ch.2.2.2.2.1 [] t4.2.1.2.2.1, Res.fam (fun g_ kvs_ => Res.map true (Ty.arr .u64 4) false Ty.bool g_ kvs_) (one_map true (Ty.arr .u64 4) false Ty.bool) ch.2.2.2.2.2.1 [] t4.2.1.2.2.2, Res.row Y100 100 ch.2.2.2.2.2.2.1 ch.2.2.2.2.2.2.2.1 ch.2.2.2.2.2.2.2.2.1 t4.2.2.2.1, Res.row (YC ch_0_0 ch.2.2.2.1 ch.2.2.2.2.1 ch.2.2.2.2.2.1) 1 ch.2.2.2.2.2.2.2.2.2.1 ch.2.2.2.2.2.2.2.2.2.2.1 ch.2.2.2.2.2.2.2.2.2.2.2.1 t4.2.2.2.2.1, Res.row (Ty.arr .u8 20) 40 ch.2.2.2.2.2.2.2.2.2.2.2.2.1 ch.2.2.2.2.2.2.2.2.2.2.2.2.2.1 ch.2.2.2.2.2.2.2.2.2.2.2.2.2.2 t4.2.2.2.2.2]) (fun (ch : W14) => [Res.cells ch_0_0 79 [.rf (.iface 75 (.agg (cellsOf [.sl ch.1 (t4.1).length ch.2.1 (RdS Y71 ch.1 t4.1)]).toArray)) (IfR [.sl ch.1 (t4.1).length ch.2.1 (RdS Y71 ch.1 t4.1)]), .one (.map (some ch.2.2.1)), .one (.int .i64 t4.2.2.1), .one (.slice ch.2.2.2.2.2.2.1 ch.2.2.2.2.2.2.2.1 ch.2.2.2.2.2.2.2.2.1), .one (.slice ch.2.2.2.2.2.2.2.2.2.1 ch.2.2.2.2.2.2.2.2.2.2.1 ch.2.2.2.2.2.2.2.2.2.2.2.1), .one (.slice ch.2.2.2.2.2.2.2.2.2.2.2.2.1 ch.2.2.2.2.2.2.2.2.2.2.2.2.2.1 ch.2.2.2.2.2.2.2.2.2.2.2.2.2.2)], Res.map true (Ty.arr .u8 20) false (Ty.pid ch.2.2.2.1) ch.2.2.1 t4.2.1.1, Res.fam (Res.struct (YE110 ch.2.2.2.2.1 ch.2.2.2.2.2.1) 110) (one_struct _ _) ch.2.2.2.1 [] t4.2.1.2.1, Res.fam (fun g_ kvs_ => Res.map true (Ty.arr .u64 4) true (Ty.arr .u64 4) g_ kvs_) (one_map true (Ty.arr .u64 4) true (Ty.arr .u64 4)) ch.2.2.2.2.1 [] t4.2.1.2.2.1, Res.fam (fun g_ kvs_ => Res.map true (Ty.arr .u64 4) false Ty.bool g_ kvs_) (one_map true (Ty.arr .u64 4) false Ty.bool) ch.2.2.2.2.2.1 [] t4.2.1.2.2.2, Res.row Y100 100 ch.2.2.2.2.2.2.1 ch.2.2.2.2.2.2.2.1 ch.2.2.2.2.2.2.2.2.1 t4.2.2.2.1, Res.row (YC ch_0_0 ch.2.2.2.1 ch.2.2.2.2.1 ch.2.2.2.2.2.1) 1 ch.2.2.2.2.2.2.2.2.2.1 ch.2.2.2.2.2.2.2.2.2.2.1 ch.2.2.2.2.2.2.2.2.2.2.2.1 t4.2.2.2.2.1, Res.row (Ty.arr .u8 20) 40 ch.2.2.2.2.2.2.2.2.2.2.2.2.1 ch.2.2.2.2.2.2.2.2.2.2.2.2.2.1 ch.2.2.2.2.2.2.2.2.2.2.2.2.2.2 t4.2.2.2.2.2]) (fun _ => rfl) rfl (.cons .here (.cons .here (.cons .here (.cons .here (.cons .here (.cons .here (.cons .here (.cons .here .nil)))))))) rfl (clo_call1.ok (gt y9 (wr .i64 (y1 - 1))) ch6 ((y2), (y3, y4, y5, y6), y7, y8, y9, y10) ch_0_0 A1 cp1 g1 G1 G2 G3 A2 nn1 cp2 A3 nn2 cp3 A4 nn3 cp4 t4 et4 _ _) ?_; clear S a w; intro ch7 m le1 a w S
    refine c_end ?_
    refine c_region' ?_
    refine s_move S rfl rfl ?_; clear S a; intro a S
    refine s_move S rfl rfl ?_; clear S a; intro a S
    refine s_nilchk S rfl rfl ?_; clear S a; intro a S
    refine s_fieldAddr S rfl I79_4 T77 (by decide) rfl rfl ?_; clear S a; intro a S
    refine s_load1 S rfl .here T77 (v := (.slice ch7.2.2.2.2.2.2.2.2.2.1 ch7.2.2.2.2.2.2.2.2.2.2.1 ch7.2.2.2.2.2.2.2.2.2.2.2.1)) rfl rfl ?_; clear S a; intro a S
    refine s_move S rfl rfl ?_; clear S a; intro a S
    refine s_bin S rfl rfl rfl rfl ?_; clear S a; intro a S
    obtain ⟨c4, h4⟩ := chk_of h3; clear h3
    refine s_cutO S (j := (wr .i64 (y1 - 1))) rfl (.there (.there (.there (.there (.there (.there .here)))))) Tryz.underlying77 T1 (.inl rfl) rfl c4.1 c4.2 rfl ?_; clear S a; intro a S
    refine s_nilchk S rfl rfl ?_; clear S a; intro a S
    refine s_fieldAddr S rfl I79_4 T77 (by decide) rfl rfl ?_; clear S a; intro a S
    refine s_store S rfl rfl rfl (s' := [.rf (.iface 75 (.agg (cellsOf [.sl ch7.1 (t4.1).length ch7.2.1 (RdS Y71 ch7.1 t4.1)]).toArray)) (IfR [.sl ch7.1 (t4.1).length ch7.2.1 (RdS Y71 ch7.1 t4.1)]), .one (.map (some ch7.2.2.1)), .one (.int .i64 t4.2.2.1), .one (.slice ch7.2.2.2.2.2.2.1 ch7.2.2.2.2.2.2.2.1 ch7.2.2.2.2.2.2.2.2.1), .one (.slice ch7.2.2.2.2.2.2.2.2.2.1 (Int.toNat (wr .i64 (y1 - 1))) ch7.2.2.2.2.2.2.2.2.2.2.2.1), .one (.slice ch7.2.2.2.2.2.2.2.2.2.2.2.2.1 ch7.2.2.2.2.2.2.2.2.2.2.2.2.2.1 ch7.2.2.2.2.2.2.2.2.2.2.2.2.2.2)]) .here T77 rfl rfl ?_; clear S w; intro w S
    refine c_end' ?_
    refine x_blockN ?_
    refine x_thenN ?_
    refine c_region' ?_
    refine s_move S rfl rfl ?_; clear S a; intro a S
    refine s_bin S rfl rfl rfl rfl ?_; clear S a; intro a S
    refine s_assign S rfl rfl ?_; clear S a; intro a S
    refine c_end' ?_
    refine x_thenN ?_
    exact ⟨_, (wr .i64 (y1 - 1)), ch7.1, ch7.2.1, t4.1, ch7.2.2.1, t4.2.1.1, ch7.2.2.2.1, ch7.2.2.2.2.1, ch7.2.2.2.2.2.1, t4.2.1.2.1, t4.2.1.2.2.1, t4.2.1.2.2.2, t4.2.2.1, ch7.2.2.2.2.2.2.1, ch7.2.2.2.2.2.2.2.1, ch7.2.2.2.2.2.2.2.2.1, t4.2.2.2.1, ch7.2.2.2.2.2.2.2.2.2.1, (Int.toNat (wr .i64 (y1 - 1))), ch7.2.2.2.2.2.2.2.2.2.2.2.1, (t4.2.2.2.2.1.take (Int.toNat (wr .i64 (y1 - 1)))), ch7.2.2.2.2.2.2.2.2.2.2.2.2.1, ch7.2.2.2.2.2.2.2.2.2.2.2.2.2.1, ch7.2.2.2.2.2.2.2.2.2.2.2.2.2.2, t4.2.2.2.2.2, (S.sub (subR rfl) (.cons .here (.cons .here (.cons .here (.cons .here (.cons .here (.cons .here (.cons .here (.cons .here .nil))))))))), h4⟩
   ·refine c_condF S rfl c2 ?_
    refine wp_exit ?_
    refine x_thenX ?_
    refine x_thenX ?_
    refine x_blockX ?_
    refine b_end ?_
    obtain rfl := Option.some.inj h1
    exact b_ret0 S rfl (S.retX (Hx := []) hb _ _ ((A1, cp1, g1, G1, G2, G3, A2, nn1, cp2, A3, nn2, cp3, A4, nn3, cp4) : W14) (.cons .here (.cons .here (.cons .here (.cons .here (.cons .here (.cons .here (.cons .here (.cons .here .nil)))))))) trivial)
abbrev word_Compare.Ty : Type := (List Int) → (List Int) → Option Int
def word_Compare.Ctr (s : word_Compare.Ty) : Prop := ∀ (x1 : List Int) (x2 : List Int) (r : Int) (h0 : s x1 x2 = some r) (mi : Mem) (w0 : World), okL mi [(.agg [.ints .u64 x1 4]), (.agg [.ints .u64 x2 4])] → Pre mi [] w0 → Calls Tryz.prog 91 (([(.agg [.ints .u64 x1 4]), (.agg [.ints .u64 x2 4])] : List D).map D.val).toArray w0 (RetX mi [] (fun (ch : Unit) => ((.v (.int .i64 r)) : D)) (fun (ch : Unit) => []) w0)
def word_Compare.j1 (x1 : List Int) (x2 : List Int) (y1 : Int) : Option Int := if (0 : Int) ≤ y1 ∧ y1 < 4 then (if (decide ((rd x1 y1) < (rd x2 y1))) = true then (some (-1)) else (some 1)) else none
def word_Compare.b1 (x1 : List Int) (x2 : List Int) (rec1 : Int → Option Int) (y3 : Int) : Option Int := if (0 : Int) ≤ y3 ∧ y3 < 4 then (if ((rd x1 y3) == (rd x2 y3)) = true then (rec1 (wr .i64 (y3 - 1))) else (word_Compare.j1 x1 x2 y3)) else none
def word_Compare.l1 (x1 : List Int) (x2 : List Int) : Nat → Int → Option Int
  | 0, _ => none
  | q + 1, y3 => word_Compare.b1 x1 x2 (word_Compare.l1 x1 x2 q) y3
def word_Compare.f (k : Nat) (x1 : List Int) (x2 : List Int) : Option Int := if (decide (x1 = x2)) = true then (some 0) else (word_Compare.l1 x1 x2 k 3)
theorem word_Compare.ok (k : Nat) : word_Compare.Ctr (word_Compare.f k) := by
 intro x1 x2 r h0 mi w0 ok hm
 delta word_Compare.f at h0
 refine c_enterX (n := 25) [(.agg [.ints .u64 x1 4]), (.agg [.ints .u64 x2 4])] (l := [(0, (.agg [.ints .u64 x1 4])), (1, (.agg [.ints .u64 x2 4]))]) Tryz.func91 rfl rfl rfl rfl ok hm ?_
 clear ok hm
 intro b0 hb a S
 refine c_region ?_
 refine s_box S rfl rfl rfl ?_; clear S a; intro g1 a w S
 refine s_box S rfl rfl rfl ?_; clear S a w; intro g2 a w S
 refine s_assign S rfl rfl ?_; clear S a; intro a S
 refine c_end ?_
 refine wp_seq ?_
 refine c_region ?_
 refine s_loada S rfl (.there .here) T43 (s' := [.ints .u64 x1 4]) rfl rfl ?_; clear S a; intro a S
 refine s_loada S rfl .here T43 (s' := [.ints .u64 x2 4]) rfl rfl ?_; clear S a; intro a S
 refine s_eqa S rfl rfl Tryz.underlying43 Tryz.underlying41 T41 Q43 rfl ?_; clear S a; intro a S
 refine c_end ?_
 rcases ite_of h0 with ⟨c1, h1⟩ | ⟨c1, h1⟩ <;> clear h0
 ·refine c_condT S rfl c1 ?_
  refine c_region ?_
  refine s_assign S rfl rfl ?_; clear S a; intro a S
  refine c_end ?_
  refine wp_ret ?_
  refine x_thenR ?_
  obtain rfl := Option.some.inj h1
  exact b_ret1 (d := (.v (.int .i64 0))) S rfl rfl fun ok => S.retX (Hx := []) hb _ _ (() : Unit) .nil ok
 ·refine c_condF S rfl c1 ?_
  refine wp_skip ?_
  refine x_thenN ?_
  refine c_region ?_
  refine s_assign S rfl rfl ?_; clear S a; intro a S
  refine c_end ?_
  refine wp_seq_k ?_
  intro K1 hK1
  have j1 : ∀ (m : Mem) (y1 : Int) (g9 : Nat) (g10 : Nat) (a : Act) (w : World), St 25 m b0 [(5, (.v (.int .i64 y1))), (3, (.v (.pointer (some ⟨g9, 0, none⟩)))), (2, (.v (.pointer (some ⟨g10, 0, none⟩))))] [Res.cells g9 43 [.ints .u64 x2 4], Res.cells g10 43 [.ints .u64 x1 4]] a w → word_Compare.j1 x1 x2 y1 = some r → K1 a w := by
   intro m y1 g9 g10 a w S h0
   delta word_Compare.j1 at h0
   refine hK1 a w ?_
   refine wp_seq ?_
   refine wp_seq (c_heldS S (.take 0 (.take 1 (.take 2 (.take 3 (.take 4 (.take 5 (.take 6 .done))))))) 7 [Res.cells g9 43 [.ints .u64 x2 4], Res.cells g10 43 [.ints .u64 x1 4]] (.cons .here (.cons .here .nil)) ⟨Res.stay_cells, Res.stay_cells, trivial⟩ [(5, (.v (.int .i64 y1))), (3, (.v (.pointer (some ⟨g9, 0, none⟩)))), (2, (.v (.pointer (some ⟨g10, 0, none⟩))))] (subR rfl) (by kernel_rfl) (by kernel_rfl) ?_); clear S; intro w S CL hw le
   refine h_move S CL hw le (subR rfl) rfl rfl rfl trivial ?_; clear S CL a; intro a S CL
   obtain ⟨c2, h1⟩ := chk_of h0; clear h0
   refine h_iaddr S CL hw le (subR rfl) rfl rfl Tryz.underlying43 T41 c2.1 c2.2 (mul1 _ _) rfl rfl trivial ?_; clear S CL a; intro a S CL
   refine h_loadi S CL hw le (subR rfl) (i := y1) rfl (.there .here) T41 .here rfl c2.1 c2.2 rfl rfl trivial ?_; clear S CL a; intro a S CL
   refine h_move S CL hw le (subR rfl) rfl rfl rfl trivial ?_; clear S CL a; intro a S CL
   refine h_iaddr S CL hw le (subR rfl) rfl rfl Tryz.underlying43 T41 c2.1 c2.2 (mul1 _ _) rfl rfl trivial ?_; clear S CL a; intro a S CL
   refine h_loadi S CL hw le (subR rfl) (i := y1) rfl .here T41 .here rfl c2.1 c2.2 rfl rfl trivial ?_; clear S CL a; intro a S CL
   refine h_bin S CL hw le (subR rfl) rfl rfl rfl rfl rfl trivial ?_; clear S CL a; intro a S CL
   refine h_done ?_; clear CL hw le
   refine x_thenN ?_
   rcases ite_of h1 with ⟨c3, h2⟩ | ⟨c3, h2⟩ <;> clear h1
   ·refine c_condT S rfl c3 ?_
    refine c_region ?_
    refine s_assign S rfl rfl ?_; clear S a; intro a S
    refine c_end ?_
    refine wp_ret ?_
    refine x_thenR ?_
    obtain rfl := Option.some.inj h2
    exact b_ret1 (d := (.v (.int .i64 (-1)))) S rfl rfl fun ok => S.retX (Hx := []) hb _ _ (() : Unit) .nil ok
   ·refine c_condF S rfl c3 ?_
    refine wp_skip ?_
    refine x_thenN ?_
    refine c_region ?_
    refine s_assign S rfl rfl ?_; clear S a; intro a S
    refine c_end ?_
    refine wp_ret ?_
    obtain rfl := Option.some.inj h2
    exact b_ret1 (d := (.v (.int .i64 1))) S rfl rfl fun ok => S.retX (Hx := []) hb _ _ (() : Unit) .nil ok
  refine wp_block ?_
  refine c_loop (fun q1 a w => ∃ (m : Mem) (y3 : Int) (g15 : Nat) (g16 : Nat), St 25 m b0 [(5, (.v (.int .i64 y3))), (3, (.v (.pointer (some ⟨g15, 0, none⟩)))), (2, (.v (.pointer (some ⟨g16, 0, none⟩))))] [Res.cells g15 43 [.ints .u64 x2 4], Res.cells g16 43 [.ints .u64 x1 4]] a w ∧ word_Compare.l1 x1 x2 q1 y3 = some r) ?_ ?_ (k := k) ⟨_, 3, g2, g1, (S.sub (subR rfl) (.cons .here (.cons .here .nil))), h1⟩
  ·rintro a w ⟨m, y3, g15, g16, S, h0⟩
   exact (nomatch (show (none : Option Int) = some r from h0))
  ·clear S h1
   rintro q1 a w ⟨m, y3, g15, g16, S, h0⟩
   replace h0 : word_Compare.b1 x1 x2 (word_Compare.l1 x1 x2 q1) y3 = some r := h0
   delta word_Compare.b1 at h0
   refine wp_seq ?_
   refine wp_seq (c_heldS S (.take 0 (.take 1 (.take 2 (.take 3 (.take 4 (.take 5 (.take 6 .done))))))) 7 [Res.cells g15 43 [.ints .u64 x2 4], Res.cells g16 43 [.ints .u64 x1 4]] (.cons .here (.cons .here .nil)) ⟨Res.stay_cells, Res.stay_cells, trivial⟩ [(5, (.v (.int .i64 y3))), (3, (.v (.pointer (some ⟨g15, 0, none⟩)))), (2, (.v (.pointer (some ⟨g16, 0, none⟩))))] (subR rfl) (by kernel_rfl) (by kernel_rfl) ?_); clear S; intro w S CL hw le
   refine h_move S CL hw le (subR rfl) rfl rfl rfl trivial ?_; clear S CL a; intro a S CL
   obtain ⟨c4, h1⟩ := chk_of h0; clear h0
   refine h_iaddr S CL hw le (subR rfl) rfl rfl Tryz.underlying43 T41 c4.1 c4.2 (mul1 _ _) rfl rfl trivial ?_; clear S CL a; intro a S CL
   refine h_loadi S CL hw le (subR rfl) (i := y3) rfl (.there .here) T41 .here rfl c4.1 c4.2 rfl rfl trivial ?_; clear S CL a; intro a S CL
   refine h_move S CL hw le (subR rfl) rfl rfl rfl trivial ?_; clear S CL a; intro a S CL
   refine h_iaddr S CL hw le (subR rfl) rfl rfl Tryz.underlying43 T41 c4.1 c4.2 (mul1 _ _) rfl rfl trivial ?_; clear S CL a; intro a S CL
   refine h_loadi S CL hw le (subR rfl) (i := y3) rfl .here T41 .here rfl c4.1 c4.2 rfl rfl trivial ?_; clear S CL a; intro a S CL
   refine h_bin S CL hw le (subR rfl) rfl rfl rfl rfl rfl trivial ?_; clear S CL a; intro a S CL
   refine h_done ?_; clear CL hw le
   refine x_thenN ?_
   rcases ite_of h1 with ⟨c5, h2⟩ | ⟨c5, h2⟩ <;> clear h1
   ·refine c_condT S rfl c5 ?_
    refine wp_skip ?_
    refine x_thenN ?_
    refine wp_block ?_
    refine c_region' ?_
    refine s_move S rfl rfl ?_; clear S a; intro a S
    refine s_bin S rfl rfl rfl rfl ?_; clear S a; intro a S
    refine s_assign S rfl rfl ?_; clear S a; intro a S
    refine c_end' ?_
    refine x_blockN ?_
    refine x_thenN ?_
    exact ⟨_, (wr .i64 (y3 - 1)), g15, g16, (S.sub (subR rfl) (.cons .here (.cons .here .nil))), h2⟩
   ·refine c_condF S rfl c5 ?_
    refine wp_exit ?_
    refine x_thenX ?_
    refine x_thenX ?_
    refine x_blockX ?_
    refine x_thenN ?_
    exact j1 _ y3 g15 g16 a w (S.sub (subR rfl) (.cons .here (.cons .here .nil))) h2
abbrev state_stored_1.Ty : Type := ((List Int) × (List Int)) → (List Int) → Option Int
def state_stored_1.Ctr (s : state_stored_1.Ty) : Prop := ∀ (x1 : (List Int) × (List Int)) (x2 : List Int) (r : Int) (h0 : s x1 x2 = some r) (mi : Mem) (w0 : World), okL mi [(.agg [.ints .u64 x1.1 4, .ints .u64 x1.2 4]), (.agg [.ints .u64 x2 4])] → Pre mi [] w0 → Calls Tryz.prog 90 (([(.agg [.ints .u64 x1.1 4, .ints .u64 x1.2 4]), (.agg [.ints .u64 x2 4])] : List D).map D.val).toArray w0 (RetX mi [] (fun (ch : Unit) => ((.v (.int .i64 r)) : D)) (fun (ch : Unit) => []) w0)
def state_stored_1.f (k : Nat) (x1 : (List Int) × (List Int)) (x2 : List Int) : Option Int := (word_Compare.f k x1.1 x2).bind fun t1 => (some t1)
theorem state_stored_1.ok (k : Nat) : state_stored_1.Ctr (state_stored_1.f k) := by
 intro x1 x2 r h0 mi w0 ok hm
 delta state_stored_1.f at h0
 refine c_enterX (n := 9) [(.agg [.ints .u64 x1.1 4, .ints .u64 x1.2 4]), (.agg [.ints .u64 x2 4])] (l := [(0, (.agg [.ints .u64 x1.1 4, .ints .u64 x1.2 4])), (1, (.agg [.ints .u64 x2 4]))]) Tryz.func90 rfl rfl rfl rfl ok hm ?_
 clear ok hm
 intro b0 hb a S
 refine c_region ?_
 refine s_box S rfl rfl rfl ?_; clear S a; intro g1 a w S
 refine s_box S rfl rfl rfl ?_; clear S a w; intro g2 a w S
 refine s_assign S rfl rfl ?_; clear S a; intro a S
 refine c_end ?_
 refine c_region ?_
 refine s_fieldAddr S rfl I83_0 T43 (by decide) rfl rfl ?_; clear S a; intro a S
 refine s_loada S rfl (.there .here) T43 (s' := [.ints .u64 x1.1 4]) rfl rfl ?_; clear S a; intro a S
 refine s_loada S rfl .here T43 (s' := [.ints .u64 x2 4]) rfl rfl ?_; clear S a; intro a S
 obtain ⟨t1, et1, h1⟩ := bind_of h0; clear h0
 refine s_callP S (fun (ch : Unit) => ((.v (.int .i64 t1)) : D)) N91 rfl rfl (word_Compare.ok k x1.1 x2 t1 et1 _ _) ?_; clear S a w; intro ch1 m le1 a w S
 refine s_assign S rfl rfl ?_; clear S a; intro a S
 refine c_end ?_
 refine wp_ret ?_
 obtain rfl := Option.some.inj h1
 exact b_ret1 (d := (.v (.int .i64 t1))) S rfl rfl fun ok => S.retX (Hx := []) hb _ _ (() : Unit) .nil ok
abbrev api_Word_n89_2f90.Ty : Type := W7 → (List Int) → Option (Int × Bool)
def api_Word_n89_2f90.Ctr (s : api_Word_n89_2f90.Ty) : Prop := ∀ (x1 : W7) (x2 : List Int) (ch_0_0 : Option Addr) (ch_0_1 : Nat) (r : Int × Bool) (h0 : s x1 x2 = some r) (mi : Mem) (w0 : World), okL mi [(.sl ch_0_0 (x1).length ch_0_1 (RdS Y83 ch_0_0 x1)), (.agg [.ints .u64 x2 4]), (.v (.func (.func 90) #[] #[]))] → Pre mi [] w0 → Calls Tryz.prog 89 (([(.sl ch_0_0 (x1).length ch_0_1 (RdS Y83 ch_0_0 x1)), (.agg [.ints .u64 x2 4]), (.v (.func (.func 90) #[] #[]))] : List D).map D.val).toArray w0 (RetX mi [] (fun (ch : Unit) => ((.tup [(false, [.one (.int .i64 r.1)]), (false, [.one (.bool r.2)])]) : D)) (fun (ch : Unit) => []) w0)
def api_Word_n89_2f90.j1 (k : Nat) (x1 : W7) (x2 : List Int) (y1 : Int) : Option (Int × Bool) := if (decide (y1 < ((x1).length : Int))) = true then (if (0 : Int) ≤ y1 ∧ y1 < ((x1).length : Int) then ((state_stored_1.f k (gt x1 y1) x2).bind fun t1 => (some (y1, t1 == 0))) else none) else (some (y1, false))
def api_Word_n89_2f90.b1 (k : Nat) (x1 : W7) (x2 : List Int) (rec1 : Int → Int → Option (Int × Bool)) (y4 : Int) (y5 : Int) : Option (Int × Bool) := if (decide (y5 < y4)) = true then (if (0 : Int) ≤ (wr .i64 (shr (wr .u64 (wr .i64 (y5 + y4))) 1)) ∧ (wr .i64 (shr (wr .u64 (wr .i64 (y5 + y4))) 1)) < ((x1).length : Int) then ((state_stored_1.f k (gt x1 (wr .i64 (shr (wr .u64 (wr .i64 (y5 + y4))) 1))) x2).bind fun t4 => (if (decide (t4 < 0)) = true then (rec1 y4 (wr .i64 ((wr .i64 (shr (wr .u64 (wr .i64 (y5 + y4))) 1)) + 1))) else (rec1 (wr .i64 (shr (wr .u64 (wr .i64 (y5 + y4))) 1)) y5))) else none) else (api_Word_n89_2f90.j1 k x1 x2 y5)
def api_Word_n89_2f90.l1 (k : Nat) (x1 : W7) (x2 : List Int) : Nat → Int → Int → Option (Int × Bool)
  | 0, _, _ => none
  | q + 1, y4, y5 => api_Word_n89_2f90.b1 k x1 x2 (api_Word_n89_2f90.l1 k x1 x2 q) y4 y5
def api_Word_n89_2f90.f (k : Nat) (x1 : W7) (x2 : List Int) : Option (Int × Bool) := api_Word_n89_2f90.l1 k x1 x2 k ((x1).length : Int) 0
theorem api_Word_n89_2f90.ok (k : Nat) : api_Word_n89_2f90.Ctr (api_Word_n89_2f90.f k) := by
 intro x1 x2 ch_0_0 ch_0_1 r h0 mi w0 ok hm
 delta api_Word_n89_2f90.f at h0
 refine c_enterX (n := 49) [(.sl ch_0_0 (x1).length ch_0_1 (RdS Y83 ch_0_0 x1)), (.agg [.ints .u64 x2 4]), (.v (.func (.func 90) #[] #[]))] (l := [(0, (.sl ch_0_0 (x1).length ch_0_1 (RdS Y83 ch_0_0 x1))), (1, (.agg [.ints .u64 x2 4])), (2, (.v (.func (.func 90) #[] #[])))]) Tryz.func89 rfl rfl rfl rfl ok hm ?_
 clear ok hm
 intro b0 hb a S
 refine c_region ?_
 refine s_box S rfl rfl rfl ?_; clear S a; intro g1 a w S
 refine s_assign S rfl rfl ?_; clear S a; intro a S
 refine s_assign S rfl rfl ?_; clear S a; intro a S
 refine c_end ?_
 refine c_region ?_
 refine s_move S rfl rfl ?_; clear S a; intro a S
 refine s_lenS S rfl Tryz.underlying69 rfl ?_; clear S a; intro a S
 refine s_assign S rfl rfl ?_; clear S a; intro a S
 refine c_end ?_
 refine c_region ?_
 refine s_move S rfl rfl ?_; clear S a; intro a S
 refine s_assign S rfl rfl ?_; clear S a; intro a S
 refine s_assign S rfl rfl ?_; clear S a; intro a S
 refine c_end ?_
 refine wp_seq_k ?_
 intro K1 hK1
 have j1 : ∀ (m : Mem) (y1 : Int) (g5 : Nat) (a : Act) (w : World), St 49 m b0 [(9, (.v (.int .i64 y1))), (8, (.v (.int .i64 ((x1).length : Int)))), (4, (.v (.pointer (some ⟨g5, 0, none⟩)))), (0, (.sl ch_0_0 (x1).length ch_0_1 (RdS Y83 ch_0_0 x1))), (2, (.v (.func (.func 90) #[] #[])))] [Res.cells g5 43 [.ints .u64 x2 4]] a w → api_Word_n89_2f90.j1 k x1 x2 y1 = some r → K1 a w := by
  intro m y1 g5 a w S h0
  delta api_Word_n89_2f90.j1 at h0
  refine hK1 a w ?_
  refine wp_seq (c_heldS S (.take 0 (.take 1 (.take 2 (.take 3 (.take 4 (.take 5 (.take 6 (.take 7 (.take 8 (.take 9 (.take 10 (.alts (.run 11 true (.take 12 (.take 13 (.take 14 (.take 15 .done)))) .nil))))))))))))) 16 [Res.cells g5 43 [.ints .u64 x2 4]] (.cons .here .nil) ⟨Res.stay_cells, trivial⟩ [(9, (.v (.int .i64 y1))), (8, (.v (.int .i64 ((x1).length : Int)))), (4, (.v (.pointer (some ⟨g5, 0, none⟩)))), (0, (.sl ch_0_0 (x1).length ch_0_1 (RdS Y83 ch_0_0 x1))), (2, (.v (.func (.func 90) #[] #[])))] (subR rfl) (by kernel_rfl) (by kernel_rfl) ?_); clear S; intro w S CL hw le
  refine h_move S CL hw le (subR rfl) rfl rfl rfl trivial ?_; clear S CL a; intro a S CL
  refine h_move S CL hw le (subR rfl) rfl rfl rfl trivial ?_; clear S CL a; intro a S CL
  refine h_move S CL hw le (subR rfl) rfl rfl rfl trivial ?_; clear S CL a; intro a S CL
  refine h_bin S CL hw le (subR rfl) rfl rfl rfl rfl rfl trivial ?_; clear S CL a; intro a S CL
  refine h_move S CL hw le (subR rfl) rfl rfl rfl trivial ?_; clear S CL a; intro a S CL
  rcases ite_of h0 with ⟨c1, h1⟩ | ⟨c1, h1⟩ <;> clear h0
  ·refine h_move S CL hw le (subR rfl) rfl rfl rfl ⟨_, _, rfl, rfl, c1⟩ ?_; clear S CL a; intro a S CL
   refine h_move S CL hw le (subR rfl) rfl rfl rfl ⟨_, _, rfl, rfl, c1⟩ ?_; clear S CL a; intro a S CL
   refine h_move S CL hw le (subR rfl) rfl rfl rfl ⟨_, _, rfl, rfl, c1⟩ ?_; clear S CL a; intro a S CL
   obtain ⟨c2, h2⟩ := chk_of h1; clear h1
   refine h_iaddrS S CL hw le (subR rfl) rfl rfl rfl Tryz.underlying69 T83 c2.1 c2.2 rfl rfl ⟨_, _, rfl, rfl, c1⟩ ?_; clear S CL a; intro p1 a S CL
   refine h_ldA S CL hw le (subR rfl) (fun (c : Unit × Unit) => [.ints .u64 ((gt x1 y1).1) 4, .ints .u64 ((gt x1 y1).2) 4]) rfl T83 (fun _ => rfl) rfl rfl ⟨_, _, rfl, rfl, c1⟩ ?_; clear S CL a; intro ch1 a S CL
   refine h_loada S CL hw le (subR rfl) rfl .here T43 (s' := [.ints .u64 x2 4]) rfl rfl rfl ⟨_, _, rfl, rfl, c1⟩ ?_; clear S CL a; intro a S CL
   refine h_run' S rfl ⟨_, _, rfl, rfl, c1⟩ ?_
   obtain ⟨t1, et1, h3⟩ := bind_of h2; clear h2
   refine s_callP S (fun (ch : Unit) => ((.v (.int .i64 t1)) : D)) N90 rfl rfl (state_stored_1.ok k (gt x1 y1) x2 t1 et1 _ _) ?_; clear S a; intro ch2 m le1 a w S
   replace le := le.trans le1
   replace hw := CL.again hw S (.cons .here .nil) le
   refine h_back ⟨fun _ => hw, ?_⟩
   replace CL := CL.add (t := 46) (d := (.v (.int .i64 t1))) S rfl rfl
   refine h_bin S CL hw le (subR rfl) rfl rfl rfl rfl rfl ⟨_, _, rfl, rfl, c1⟩ ?_; clear S CL a; intro a S CL
   refine h_pick S CL hw le (subR rfl) (b := true) (hc_of rfl c1) rfl rfl rfl trivial ?_; clear S CL a; intro a S CL
   refine h_assign S CL hw le (subR rfl) rfl rfl rfl trivial ?_; clear S CL a; intro a S CL
   refine h_assign S CL hw le (subR rfl) rfl rfl rfl trivial ?_; clear S CL a; intro a S CL
   refine h_done ?_; clear CL hw le
   refine x_thenN ?_
   refine wp_ret ?_
   obtain rfl := Option.some.inj h3
   exact b_ret2 (d1 := (.v (.int .i64 y1))) (d2 := (.v (.bool (t1 == 0)))) S rfl rfl rfl fun ok1 ok2 => S.retX (Hx := []) hb _ _ (() : Unit) .nil ⟨⟨ok1, trivial⟩, ⟨ok2, trivial⟩, trivial⟩
  ·refine h_skip S CL rfl rfl rfl (ne_bool c1) rfl ?_; clear S CL a; intro a S CL
   refine h_skip S CL rfl rfl rfl (ne_bool c1) rfl ?_; clear S CL a; intro a S CL
   refine h_skip S CL rfl rfl rfl (ne_bool c1) rfl ?_; clear S CL a; intro a S CL
   refine h_skip S CL rfl rfl rfl (ne_bool c1) rfl ?_; clear S CL a; intro a S CL
   refine h_skip S CL rfl rfl rfl (ne_bool c1) rfl ?_; clear S CL a; intro a S CL
   refine h_skip S CL rfl rfl rfl (ne_bool c1) rfl ?_; clear S CL a; intro a S CL
   refine h_skipRt S rfl rfl rfl (ne_bool c1) rfl ?_; clear S a; intro a S
   replace hw := CL.again hw S (.cons .here .nil) le
   refine h_back ⟨fun _ => hw, ?_⟩
   replace CL := CL.add (t := 46) (d := .u) S rfl rfl
   refine h_skip S CL rfl rfl rfl (ne_bool c1) rfl ?_; clear S CL a; intro a S CL
   refine h_pick S CL hw le (subR rfl) (b := false) (hc_of rfl c1) rfl rfl rfl trivial ?_; clear S CL a; intro a S CL
   refine h_assign S CL hw le (subR rfl) rfl rfl rfl trivial ?_; clear S CL a; intro a S CL
   refine h_assign S CL hw le (subR rfl) rfl rfl rfl trivial ?_; clear S CL a; intro a S CL
   refine h_done ?_; clear CL hw le
   refine x_thenN ?_
   refine wp_ret ?_
   obtain rfl := Option.some.inj h1
   exact b_ret2 (d1 := (.v (.int .i64 y1))) (d2 := (.v (.bool false))) S rfl rfl rfl fun ok1 ok2 => S.retX (Hx := []) hb _ _ (() : Unit) .nil ⟨⟨ok1, trivial⟩, ⟨ok2, trivial⟩, trivial⟩
 refine wp_block ?_
 refine c_loop (fun q1 a w => ∃ (m : Mem) (y4 : Int) (y5 : Int) (g8 : Nat), St 49 m b0 [(10, (.v (.int .i64 y4))), (9, (.v (.int .i64 y5))), (8, (.v (.int .i64 ((x1).length : Int)))), (4, (.v (.pointer (some ⟨g8, 0, none⟩)))), (0, (.sl ch_0_0 (x1).length ch_0_1 (RdS Y83 ch_0_0 x1))), (2, (.v (.func (.func 90) #[] #[])))] [Res.cells g8 43 [.ints .u64 x2 4]] a w ∧ api_Word_n89_2f90.l1 k x1 x2 q1 y4 y5 = some r) ?_ ?_ (k := k) ⟨_, ((x1).length : Int), 0, g1, (S.sub (subR rfl) (.cons .here .nil)), h0⟩
 ·rintro a w ⟨m, y4, y5, g8, S, h0⟩
  exact (nomatch (show (none : Option (Int × Bool)) = some r from h0))
 ·clear S h0
  rintro q1 a w ⟨m, y4, y5, g8, S, h0⟩
  replace h0 : api_Word_n89_2f90.b1 k x1 x2 (api_Word_n89_2f90.l1 k x1 x2 q1) y4 y5 = some r := h0
  delta api_Word_n89_2f90.b1 at h0
  refine wp_seq ?_
  refine c_region ?_
  refine s_move S rfl rfl ?_; clear S a; intro a S
  refine s_move S rfl rfl ?_; clear S a; intro a S
  refine s_bin S rfl rfl rfl rfl ?_; clear S a; intro a S
  refine c_end ?_
  rcases ite_of h0 with ⟨c3, h1⟩ | ⟨c3, h1⟩ <;> clear h0
  ·refine c_condT S rfl c3 ?_
   refine wp_skip ?_
   refine x_thenN ?_
   refine wp_block ?_
   refine c_region ?_
   refine s_move S rfl rfl ?_; clear S a; intro a S
   refine s_move S rfl rfl ?_; clear S a; intro a S
   refine s_bin S rfl rfl rfl rfl ?_; clear S a; intro a S
   refine s_conv S rfl rfl Tryz.underlying150 rfl ?_; clear S a; intro a S
   refine s_shr S (e := 1) rfl rfl (by decide) rfl rfl ?_; clear S a; intro a S
   refine s_conv S rfl rfl Tryz.underlying3 rfl ?_; clear S a; intro a S
   refine s_assign S rfl rfl ?_; clear S a; intro a S
   refine c_end ?_
   refine wp_seq (c_heldS S (.take 0 (.take 1 (.take 2 (.take 3 (.take 4 (.take 5 (.alts (.run 6 true (.take 7 .done) .nil)))))))) 8 [Res.cells g8 43 [.ints .u64 x2 4]] (.cons .here .nil) ⟨Res.stay_cells, trivial⟩ [(11, (.v (.int .i64 (wr .i64 (shr (wr .u64 (wr .i64 (y5 + y4))) 1))))), (4, (.v (.pointer (some ⟨g8, 0, none⟩)))), (0, (.sl ch_0_0 (x1).length ch_0_1 (RdS Y83 ch_0_0 x1))), (2, (.v (.func (.func 90) #[] #[])))] (subR rfl) (by kernel_rfl) (by kernel_rfl) ?_); clear S; intro w S CL hw le
   refine h_move S CL hw le (subR rfl) rfl rfl rfl trivial ?_; clear S CL a; intro a S CL
   refine h_move S CL hw le (subR rfl) rfl rfl rfl trivial ?_; clear S CL a; intro a S CL
   refine h_move S CL hw le (subR rfl) rfl rfl rfl trivial ?_; clear S CL a; intro a S CL
   obtain ⟨c4, h2⟩ := chk_of h1; clear h1
   refine h_iaddrS S CL hw le (subR rfl) rfl rfl rfl Tryz.underlying69 T83 c4.1 c4.2 rfl rfl trivial ?_; clear S CL a; intro p4 a S CL
   refine h_ldA S CL hw le (subR rfl) (fun (c : Unit × Unit) => [.ints .u64 ((gt x1 (wr .i64 (shr (wr .u64 (wr .i64 (y5 + y4))) 1))).1) 4, .ints .u64 ((gt x1 (wr .i64 (shr (wr .u64 (wr .i64 (y5 + y4))) 1))).2) 4]) rfl T83 (fun _ => rfl) rfl rfl trivial ?_; clear S CL a; intro ch3 a S CL
   refine h_loada S CL hw le (subR rfl) rfl .here T43 (s' := [.ints .u64 x2 4]) rfl rfl rfl trivial ?_; clear S CL a; intro a S CL
   refine h_run' S rfl trivial ?_
   obtain ⟨t4, et4, h3⟩ := bind_of h2; clear h2
   refine s_callP S (fun (ch : Unit) => ((.v (.int .i64 t4)) : D)) N90 rfl rfl (state_stored_1.ok k (gt x1 (wr .i64 (shr (wr .u64 (wr .i64 (y5 + y4))) 1))) x2 t4 et4 _ _) ?_; clear S a; intro ch4 m le1 a w S
   replace le := le.trans le1
   replace hw := CL.again hw S (.cons .here .nil) le
   refine h_back ⟨fun _ => hw, ?_⟩
   replace CL := CL.add (t := 30) (d := (.v (.int .i64 t4))) S rfl rfl
   refine h_bin S CL hw le (subR rfl) rfl rfl rfl rfl rfl trivial ?_; clear S CL a; intro a S CL
   refine h_done ?_; clear CL hw le
   refine x_thenN ?_
   rcases ite_of h3 with ⟨c5, h4⟩ | ⟨c5, h4⟩ <;> clear h3
   ·refine c_condT S rfl c5 ?_
    refine c_region' ?_
    refine s_move S rfl rfl ?_; clear S a; intro a S
    refine s_bin S rfl rfl rfl rfl ?_; clear S a; intro a S
    refine s_assign S rfl rfl ?_; clear S a; intro a S
    refine c_end' ?_
    refine x_blockN ?_
    refine x_thenN ?_
    exact ⟨_, y4, (wr .i64 ((wr .i64 (shr (wr .u64 (wr .i64 (y5 + y4))) 1)) + 1)), g8, (S.sub (subR rfl) (.cons .here .nil)), h4⟩
   ·refine c_condF S rfl c5 ?_
    refine c_region' ?_
    refine s_move S rfl rfl ?_; clear S a; intro a S
    refine s_assign S rfl rfl ?_; clear S a; intro a S
    refine c_end' ?_
    refine x_blockN ?_
    refine x_thenN ?_
    exact ⟨_, (wr .i64 (shr (wr .u64 (wr .i64 (y5 + y4))) 1)), y5, g8, (S.sub (subR rfl) (.cons .here .nil)), h4⟩
  ·refine c_condF S rfl c3 ?_
   refine wp_exit ?_
   refine x_thenX ?_
   refine x_thenX ?_
   refine x_blockX ?_
   refine x_thenN ?_
   exact j1 _ y5 g8 a w (S.sub (subR rfl) (.cons .here .nil)) h1
abbrev state_stored.Ty : Type := W18 → (List Int) → Option (List Int)
def state_stored.Ctr (s : state_stored.Ty) : Prop := ∀ (x1 : W18) (x2 : List Int) (ch_0_0 : Option Addr) (ch_0_1 : Nat) (ch_0_2 : Option Addr) (ch_0_3 : Nat) (r : List Int) (h0 : s x1 x2 = some r) (mi : Mem) (w0 : World), okL mi [(.agg (Y71.segs x1 ((), (), (), (ch_0_0, ch_0_1), (ch_0_2, ch_0_3)))), (.agg [.ints .u64 x2 4])] → Pre mi [] w0 → Calls Tryz.prog 57 (([(.agg (Y71.segs x1 ((), (), (), (ch_0_0, ch_0_1), (ch_0_2, ch_0_3)))), (.agg [.ints .u64 x2 4])] : List D).map D.val).toArray w0 (RetX mi [] (fun (ch : Unit) => ((.agg [.ints .u64 r 4]) : D)) (fun (ch : Unit) => []) w0)
def state_stored.f (k : Nat) (x1 : W18) (x2 : List Int) : Option (List Int) := (api_Word_n89_2f90.f k x1.2.2.2.2 x2).bind fun t1 => (if (!t1.2) = true then (some [0, 0, 0, 0]) else (if (0 : Int) ≤ t1.1 ∧ t1.1 < ((x1.2.2.2.2).length : Int) then (some ((gt x1.2.2.2.2 t1.1).2)) else none))
theorem state_stored.ok (k : Nat) : state_stored.Ctr (state_stored.f k) := by
 intro x1 x2 ch_0_0 ch_0_1 ch_0_2 ch_0_3 r h0 mi w0 ok hm
 delta state_stored.f at h0
 refine c_enterX (n := 23) [(.agg (Y71.segs x1 ((), (), (), (ch_0_0, ch_0_1), (ch_0_2, ch_0_3)))), (.agg [.ints .u64 x2 4])] (l := [(0, (.agg (Y71.segs x1 ((), (), (), (ch_0_0, ch_0_1), (ch_0_2, ch_0_3))))), (1, (.agg [.ints .u64 x2 4]))]) Tryz.func57 rfl rfl rfl rfl ok hm ?_
 clear ok hm
 intro b0 hb a S
 refine c_region ?_
 refine s_box S rfl rfl rfl ?_; clear S a; intro g1 a w S
 refine s_box S rfl rfl rfl ?_; clear S a w; intro g2 a w S
 refine s_alloc S Z43 rfl ⟨rfl, trivial⟩ rfl ?_; clear S a w; intro g3 a w S
 refine c_end ?_
 refine c_region ?_
 refine s_fieldAddr S rfl I71_4 T69 (by decide) rfl rfl ?_; clear S a; intro a S
 refine s_loadSl S rfl (.there (.there .here)) T69 (A := ch_0_2) (len := (x1.2.2.2.2).length) (cap := ch_0_3) rfl rfl ?_; clear S a; intro a S
 refine s_loada S rfl (.there .here) T43 (s' := [.ints .u64 x2 4]) rfl rfl ?_; clear S a; intro a S
 obtain ⟨t1, et1, h1⟩ := bind_of h0; clear h0
 refine s_callP S (fun (ch : Unit) => ((.tup [(false, [.one (.int .i64 t1.1)]), (false, [.one (.bool t1.2)])]) : D)) N89 rfl rfl (api_Word_n89_2f90.ok k x1.2.2.2.2 x2 ch_0_2 ch_0_3 t1 et1 _ _) ?_; clear S a w; intro ch1 m le1 a w S
 refine s_move S rfl rfl ?_; clear S a; intro a S
 refine s_extract S rfl rfl rfl rfl ?_; clear S a; intro a S
 refine s_extract S rfl rfl rfl rfl ?_; clear S a; intro a S
 refine s_assign S rfl rfl ?_; clear S a; intro a S
 refine s_assign S rfl rfl ?_; clear S a; intro a S
 refine c_end ?_
 refine wp_seq ?_
 refine c_region ?_
 refine s_move S rfl rfl ?_; clear S a; intro a S
 refine s_not S rfl rfl ?_; clear S a; intro a S
 refine c_end ?_
 rcases ite_of h1 with ⟨c1, h2⟩ | ⟨c1, h2⟩ <;> clear h1
 ·refine c_condT S rfl c1 ?_
  refine c_region ?_
  refine s_build S (ds := []) (dv := (.agg [.ints .u64 [0, 0, 0, 0] 4])) rfl (fun _ => by kernel_rfl) ⟨rfl, trivial⟩ rfl ?_; clear S a; intro a S
  refine s_store S rfl rfl rfl (s' := [.ints .u64 [0, 0, 0, 0] 4]) .here T43 rfl rfl ?_; clear S w; intro w S
  refine c_end ?_
  refine wp_ret ?_
  refine x_thenR ?_
  obtain rfl := Option.some.inj h2
  exact b_ret1 (d := (.agg [.ints .u64 [0, 0, 0, 0] 4])) S rfl (resD_cell rfl .here T43 rfl rfl) fun ok => S.retX (Hx := []) hb _ _ (() : Unit) .nil ok
 ·refine c_condF S rfl c1 ?_
  refine wp_skip ?_
  refine x_thenN ?_
  refine c_region ?_
  refine s_fieldAddr S rfl I71_4 T69 (by decide) rfl rfl ?_; clear S a; intro a S
  refine s_loadSl S rfl (.there (.there .here)) T69 (A := ch_0_2) (len := (x1.2.2.2.2).length) (cap := ch_0_3) rfl rfl ?_; clear S a; intro a S
  refine s_move S rfl rfl ?_; clear S a; intro a S
  obtain ⟨c2, h3⟩ := chk_of h2; clear h2
  refine s_iaddrS S rfl rfl rfl Tryz.underlying69 T83 c2.1 c2.2 rfl ?_; clear S a; intro p1 a S
  refine s_faddrP S (tF := (Ty.arr .u64 4)) (y := (gt x1.2.2.2.2 t1.1).2) rfl I83_1 T43 (by decide) (fun m h => (at_snd (at_0 h))) rfl ?_; clear S a; intro a S
  refine s_ldA S (fun (c : Unit) => [.ints .u64 ((gt x1.2.2.2.2 t1.1).2) 4]) rfl T43 (fun _ => rfl) rfl ?_; clear S a; intro ch2 a S
  refine s_store S rfl rfl rfl (s' := [.ints .u64 ((gt x1.2.2.2.2 t1.1).2) 4]) .here T43 rfl rfl ?_; clear S w; intro w S
  refine c_end ?_
  refine wp_ret ?_
  obtain rfl := Option.some.inj h3
  exact b_ret1 (d := (.agg [.ints .u64 ((gt x1.2.2.2.2 t1.1).2) 4])) S rfl (resD_cell rfl .here T43 rfl rfl) fun ok => S.retX (Hx := []) hb _ _ (() : Unit) .nil ok
abbrev state_State_First.Ty : Type := W1 → (List Int) → (List Int) → Option W19
def state_State_First.Ctr (s : state_State_First.Ty) : Prop := ∀ (x1 : W1) (x2 : List Int) (x3 : List Int) (ch_0_0 : Nat) (ch_0_1 : Option Addr) (ch_0_2 : Nat) (ch_0_3 : Nat) (ch_0_4 : List Nat) (ch_0_5 : List Nat) (ch_0_6 : List Nat) (ch_0_7 : Option Addr) (ch_0_8 : Nat) (ch_0_9 : Nat) (ch_0_10 : Option Addr) (ch_0_11 : Nat) (ch_0_12 : Nat) (ch_0_13 : Option Addr) (ch_0_14 : Nat) (ch_0_15 : Nat) (r : W19) (h0 : s x1 x2 x3 = some r) (mi : Mem) (w0 : World), okL mi [(.v (.pointer (some ⟨ch_0_0, 0, none⟩))), (.agg [.ints .u8 x2 20]), (.agg [.ints .u64 x3 4])] → Pre mi [Res.cells ch_0_0 79 [.rf (.iface 75 (.agg (cellsOf [.sl ch_0_1 (x1.1).length ch_0_2 (RdS Y71 ch_0_1 x1.1)]).toArray)) (IfR [.sl ch_0_1 (x1.1).length ch_0_2 (RdS Y71 ch_0_1 x1.1)]), .one (.map (some ch_0_3)), .one (.int .i64 x1.2.2.1), .one (.slice ch_0_7 ch_0_8 ch_0_9), .one (.slice ch_0_10 ch_0_11 ch_0_12), .one (.slice ch_0_13 ch_0_14 ch_0_15)], Res.map true (Ty.arr .u8 20) false (Ty.pid ch_0_4) ch_0_3 x1.2.1.1, Res.fam (Res.struct (YE110 ch_0_5 ch_0_6) 110) (one_struct _ _) ch_0_4 [] x1.2.1.2.1, Res.fam (fun g_ kvs_ => Res.map true (Ty.arr .u64 4) true (Ty.arr .u64 4) g_ kvs_) (one_map true (Ty.arr .u64 4) true (Ty.arr .u64 4)) ch_0_5 [] x1.2.1.2.2.1, Res.fam (fun g_ kvs_ => Res.map true (Ty.arr .u64 4) false Ty.bool g_ kvs_) (one_map true (Ty.arr .u64 4) false Ty.bool) ch_0_6 [] x1.2.1.2.2.2, Res.row Y100 100 ch_0_7 ch_0_8 ch_0_9 x1.2.2.2.1, Res.row (YC ch_0_0 ch_0_4 ch_0_5 ch_0_6) 1 ch_0_10 ch_0_11 ch_0_12 x1.2.2.2.2.1, Res.row (Ty.arr .u8 20) 40 ch_0_13 ch_0_14 ch_0_15 x1.2.2.2.2.2] w0 → Calls Tryz.prog 22 (([(.v (.pointer (some ⟨ch_0_0, 0, none⟩))), (.agg [.ints .u8 x2 20]), (.agg [.ints .u64 x3 4])] : List D).map D.val).toArray w0 (RetX mi [Res.cells ch_0_0 79 [.rf (.iface 75 (.agg (cellsOf [.sl ch_0_1 (x1.1).length ch_0_2 (RdS Y71 ch_0_1 x1.1)]).toArray)) (IfR [.sl ch_0_1 (x1.1).length ch_0_2 (RdS Y71 ch_0_1 x1.1)]), .one (.map (some ch_0_3)), .one (.int .i64 x1.2.2.1), .one (.slice ch_0_7 ch_0_8 ch_0_9), .one (.slice ch_0_10 ch_0_11 ch_0_12), .one (.slice ch_0_13 ch_0_14 ch_0_15)], Res.map true (Ty.arr .u8 20) false (Ty.pid ch_0_4) ch_0_3 x1.2.1.1, Res.fam (Res.struct (YE110 ch_0_5 ch_0_6) 110) (one_struct _ _) ch_0_4 [] x1.2.1.2.1, Res.fam (fun g_ kvs_ => Res.map true (Ty.arr .u64 4) true (Ty.arr .u64 4) g_ kvs_) (one_map true (Ty.arr .u64 4) true (Ty.arr .u64 4)) ch_0_5 [] x1.2.1.2.2.1, Res.fam (fun g_ kvs_ => Res.map true (Ty.arr .u64 4) false Ty.bool g_ kvs_) (one_map true (Ty.arr .u64 4) false Ty.bool) ch_0_6 [] x1.2.1.2.2.2, Res.row Y100 100 ch_0_7 ch_0_8 ch_0_9 x1.2.2.2.1, Res.row (YC ch_0_0 ch_0_4 ch_0_5 ch_0_6) 1 ch_0_10 ch_0_11 ch_0_12 x1.2.2.2.2.1, Res.row (Ty.arr .u8 20) 40 ch_0_13 ch_0_14 ch_0_15 x1.2.2.2.2.2] (fun (ch : W6) => ((.agg [.ints .u64 r.1 4]) : D)) (fun (ch : W6) => [Res.cells ch_0_0 79 [.rf (.iface 75 (.agg (cellsOf [.sl ch_0_1 (x1.1).length ch_0_2 (RdS Y71 ch_0_1 x1.1)]).toArray)) (IfR [.sl ch_0_1 (x1.1).length ch_0_2 (RdS Y71 ch_0_1 x1.1)]), .one (.map (some ch.1)), .one (.int .i64 x1.2.2.1), .one (.slice ch.2.2.2.2.1 ch.2.2.2.2.2.1 ch.2.2.2.2.2.2.1), .one (.slice ch.2.2.2.2.2.2.2.1 ch.2.2.2.2.2.2.2.2.1 ch.2.2.2.2.2.2.2.2.2.1), .one (.slice ch.2.2.2.2.2.2.2.2.2.2.1 ch.2.2.2.2.2.2.2.2.2.2.2.1 ch.2.2.2.2.2.2.2.2.2.2.2.2)], Res.map true (Ty.arr .u8 20) false (Ty.pid ch.2.1) ch.1 r.2.2.1.1, Res.fam (Res.struct (YE110 ch.2.2.1 ch.2.2.2.1) 110) (one_struct _ _) ch.2.1 [] r.2.2.1.2.1, Res.fam (fun g_ kvs_ => Res.map true (Ty.arr .u64 4) true (Ty.arr .u64 4) g_ kvs_) (one_map true (Ty.arr .u64 4) true (Ty.arr .u64 4)) ch.2.2.1 [] r.2.2.1.2.2.1, Res.fam (fun g_ kvs_ => Res.map true (Ty.arr .u64 4) false Ty.bool g_ kvs_) (one_map true (Ty.arr .u64 4) false Ty.bool) ch.2.2.2.1 [] r.2.2.1.2.2.2, Res.row Y100 100 ch.2.2.2.2.1 ch.2.2.2.2.2.1 ch.2.2.2.2.2.2.1 r.2.2.2.2.1, Res.row (YC ch_0_0 ch.2.1 ch.2.2.1 ch.2.2.2.1) 1 ch.2.2.2.2.2.2.2.1 ch.2.2.2.2.2.2.2.2.1 ch.2.2.2.2.2.2.2.2.2.1 r.2.2.2.2.2.1, Res.row (Ty.arr .u8 20) 40 ch.2.2.2.2.2.2.2.2.2.2.1 ch.2.2.2.2.2.2.2.2.2.2.2.1 ch.2.2.2.2.2.2.2.2.2.2.2.2 r.2.2.2.2.2.2]) w0)
def state_State_First.f (k : Nat) (x1 : W1) (x2 : List Int) (x3 : List Int) : Option W19 := (state_State_at.f k ((x1.1), x1.2.1, x1.2.2.1, x1.2.2.2.1, x1.2.2.2.2.1, x1.2.2.2.2.2) x2).bind fun t1 => (if t1.1.isSome = true then (if ((atE t1.2.2.1.2.1 (t1.1.getD 0)).2.2.1) = true then (some ([0, 0, 0, 0], ((), t1.2.2.1, (), t1.2.2.2.2.1, t1.2.2.2.2.2.1, t1.2.2.2.2.2.2))) else ((state_stored.f k ((atE t1.2.2.1.2.1 (t1.1.getD 0)).1) x3).bind fun t2 => (some (t2, ((), t1.2.2.1, (), t1.2.2.2.2.1, t1.2.2.2.2.2.1, t1.2.2.2.2.2.2))))) else none)
theorem state_State_First.ok (k : Nat) : state_State_First.Ctr (state_State_First.f k) := by
 intro x1 x2 x3 ch_0_0 ch_0_1 ch_0_2 ch_0_3 ch_0_4 ch_0_5 ch_0_6 ch_0_7 ch_0_8 ch_0_9 ch_0_10 ch_0_11 ch_0_12 ch_0_13 ch_0_14 ch_0_15 r h0 mi w0 ok hm
 delta state_State_First.f at h0
 refine c_enterX (n := 25) [(.v (.pointer (some ⟨ch_0_0, 0, none⟩))), (.agg [.ints .u8 x2 20]), (.agg [.ints .u64 x3 4])] (l := [(0, (.v (.pointer (some ⟨ch_0_0, 0, none⟩)))), (1, (.agg [.ints .u8 x2 20])), (2, (.agg [.ints .u64 x3 4]))]) Tryz.func22 rfl rfl rfl rfl ok hm ?_
 clear ok hm
 intro b0 hb a S
 refine c_region ?_
 refine s_box S rfl rfl rfl ?_; clear S a; intro g1 a w S
 refine s_box S rfl rfl rfl ?_; clear S a w; intro g2 a w S
 refine s_alloc S Z43 rfl ⟨rfl, trivial⟩ rfl ?_; clear S a w; intro g3 a w S
 refine c_end ?_
 refine wp_seq ?_
 refine c_region ?_
 refine s_move S rfl rfl ?_; clear S a; intro a S
 refine s_eqp S (b := false) rfl rfl Tryz.underlying26 rfl rfl ?_; clear S a; intro a S
 refine c_end ?_
 refine c_condF S rfl rfl ?_
 refine wp_skip ?_
 refine x_thenN ?_
 refine c_region ?_
 refine s_move S rfl rfl ?_; clear S a; intro a S
 refine s_loada S rfl (.there (.there .here)) T40 (s' := [.ints .u8 x2 20]) rfl rfl ?_; clear S a; intro a S
 obtain ⟨t1, et1, h1⟩ := bind_of h0; clear h0
 refine s_callX S (ds' := [(.v (.pointer (some ⟨ch_0_0, 0, none⟩))), (.agg [.ints .u8 x2 20])]) (ds := [(.v (.pointer (some ⟨ch_0_0, 0, none⟩))), (.agg [.ints .u8 x2 20])]) [Res.cells ch_0_0 79 [.rf (.iface 75 (.agg (cellsOf [.sl ch_0_1 (x1.1).length ch_0_2 (RdS Y71 ch_0_1 x1.1)]).toArray)) (IfR [.sl ch_0_1 (x1.1).length ch_0_2 (RdS Y71 ch_0_1 x1.1)]), .one (.map (some ch_0_3)), .one (.int .i64 x1.2.2.1), .one (.slice ch_0_7 ch_0_8 ch_0_9), .one (.slice ch_0_10 ch_0_11 ch_0_12), .one (.slice ch_0_13 ch_0_14 ch_0_15)], Res.map true (Ty.arr .u8 20) false (Ty.pid ch_0_4) ch_0_3 x1.2.1.1, Res.fam (Res.struct (YE110 ch_0_5 ch_0_6) 110) (one_struct _ _) ch_0_4 [] x1.2.1.2.1, Res.fam (fun g_ kvs_ => Res.map true (Ty.arr .u64 4) true (Ty.arr .u64 4) g_ kvs_) (one_map true (Ty.arr .u64 4) true (Ty.arr .u64 4)) ch_0_5 [] x1.2.1.2.2.1, Res.fam (fun g_ kvs_ => Res.map true (Ty.arr .u64 4) false Ty.bool g_ kvs_) (one_map true (Ty.arr .u64 4) false Ty.bool) ch_0_6 [] x1.2.1.2.2.2, Res.row Y100 100 ch_0_7 ch_0_8 ch_0_9 x1.2.2.2.1, Res.row (YC ch_0_0 ch_0_4 ch_0_5 ch_0_6) 1 ch_0_10 ch_0_11 ch_0_12 x1.2.2.2.2.1, Res.row (Ty.arr .u8 20) 40 ch_0_13 ch_0_14 ch_0_15 x1.2.2.2.2.2] [Res.cells g3 43 [.ints .u64 [0, 0, 0, 0] 4], Res.cells g2 43 [.ints .u64 x3 4], Res.cells g1 40 [.ints .u8 x2 20]] (fun (ch : W6) => ((.rf (ptrV ch.2.1 t1.1) (ptrR ch.2.1 t1.1)) : D)) (fun (ch : W6) => [Res.cells ch_0_0 79 [.rf (.iface 75 (.agg (cellsOf [.sl ch_0_1 (x1.1).length ch_0_2 (RdS Y71 ch_0_1 x1.1)]).toArray)) (IfR [.sl ch_0_1 (x1.1).length ch_0_2 (RdS Y71 ch_0_1 x1.1)]), .one (.map (some ch.1)), .one (.int .i64 x1.2.2.1), .one (.slice ch.2.2.2.2.1 ch.2.2.2.2.2.1 ch.2.2.2.2.2.2.1), .one (.slice ch.2.2.2.2.2.2.2.1 ch.2.2.2.2.2.2.2.2.1 ch.2.2.2.2.2.2.2.2.2.1), .one (.slice ch.2.2.2.2.2.2.2.2.2.2.1 ch.2.2.2.2.2.2.2.2.2.2.2.1 ch.2.2.2.2.2.2.2.2.2.2.2.2)], Res.map true (Ty.arr .u8 20) false (Ty.pid ch.2.1) ch.1 t1.2.2.1.1, Res.fam (Res.struct (YE110 ch.2.2.1 ch.2.2.2.1) 110) (one_struct _ _) ch.2.1 [] t1.2.2.1.2.1, Res.fam (fun g_ kvs_ => Res.map true (Ty.arr .u64 4) true (Ty.arr .u64 4) g_ kvs_) (one_map true (Ty.arr .u64 4) true (Ty.arr .u64 4)) ch.2.2.1 [] t1.2.2.1.2.2.1, Res.fam (fun g_ kvs_ => Res.map true (Ty.arr .u64 4) false Ty.bool g_ kvs_) (one_map true (Ty.arr .u64 4) false Ty.bool) ch.2.2.2.1 [] t1.2.2.1.2.2.2, Res.row Y100 100 ch.2.2.2.2.1 ch.2.2.2.2.2.1 ch.2.2.2.2.2.2.1 t1.2.2.2.2.1, Res.row (YC ch_0_0 ch.2.1 ch.2.2.1 ch.2.2.2.1) 1 ch.2.2.2.2.2.2.2.1 ch.2.2.2.2.2.2.2.2.1 ch.2.2.2.2.2.2.2.2.2.1 t1.2.2.2.2.2.1, Res.row (Ty.arr .u8 20) 40 ch.2.2.2.2.2.2.2.2.2.2.1 ch.2.2.2.2.2.2.2.2.2.2.2.1 ch.2.2.2.2.2.2.2.2.2.2.2.2 t1.2.2.2.2.2.2]) (fun (ch : W6) => [Res.cells ch_0_0 79 [.rf (.iface 75 (.agg (cellsOf [.sl ch_0_1 (x1.1).length ch_0_2 (RdS Y71 ch_0_1 x1.1)]).toArray)) (IfR [.sl ch_0_1 (x1.1).length ch_0_2 (RdS Y71 ch_0_1 x1.1)]), .one (.map (some ch.1)), .one (.int .i64 x1.2.2.1), .one (.slice ch.2.2.2.2.1 ch.2.2.2.2.2.1 ch.2.2.2.2.2.2.1), .one (.slice ch.2.2.2.2.2.2.2.1 ch.2.2.2.2.2.2.2.2.1 ch.2.2.2.2.2.2.2.2.2.1), .one (.slice ch.2.2.2.2.2.2.2.2.2.2.1 ch.2.2.2.2.2.2.2.2.2.2.2.1 ch.2.2.2.2.2.2.2.2.2.2.2.2)], Res.map true (Ty.arr .u8 20) false (Ty.pid ch.2.1) ch.1 t1.2.2.1.1, Res.fam (Res.struct (YE110 ch.2.2.1 ch.2.2.2.1) 110) (one_struct _ _) ch.2.1 [] t1.2.2.1.2.1, Res.fam (fun g_ kvs_ => Res.map true (Ty.arr .u64 4) true (Ty.arr .u64 4) g_ kvs_) (one_map true (Ty.arr .u64 4) true (Ty.arr .u64 4)) ch.2.2.1 [] t1.2.2.1.2.2.1, Res.fam (fun g_ kvs_ => Res.map true (Ty.arr .u64 4) false Ty.bool g_ kvs_) (one_map true (Ty.arr .u64 4) false Ty.bool) ch.2.2.2.1 [] t1.2.2.1.2.2.2, Res.row Y100 100 ch.2.2.2.2.1 ch.2.2.2.2.2.1 ch.2.2.2.2.2.2.1 t1.2.2.2.2.1, Res.row (YC ch_0_0 ch.2.1 ch.2.2.1 ch.2.2.2.1) 1 ch.2.2.2.2.2.2.2.1 ch.2.2.2.2.2.2.2.2.1 ch.2.2.2.2.2.2.2.2.2.1 t1.2.2.2.2.2.1, Res.row (Ty.arr .u8 20) 40 ch.2.2.2.2.2.2.2.2.2.2.1 ch.2.2.2.2.2.2.2.2.2.2.2.1 ch.2.2.2.2.2.2.2.2.2.2.2.2 t1.2.2.2.2.2.2, Res.cells g3 43 [.ints .u64 [0, 0, 0, 0] 4], Res.cells g2 43 [.ints .u64 x3 4], Res.cells g1 40 [.ints .u8 x2 20]]) (fun _ => rfl) N56 rfl rfl (fun ok => ok) (.cons (.there (.there (.there .here))) (.cons (.there (.there (.there .here))) (.cons (.there (.there (.there .here))) (.cons (.there (.there (.there .here))) (.cons (.there (.there (.there .here))) (.cons (.there (.there (.there .here))) (.cons (.there (.there (.there .here))) (.cons (.there (.there (.there .here))) (.cons .here (.cons .here (.cons .here .nil))))))))))) rfl (state_State_at.ok k ((x1.1), x1.2.1, x1.2.2.1, x1.2.2.2.1, x1.2.2.2.2.1, x1.2.2.2.2.2) x2 ch_0_0 ch_0_1 ch_0_2 ch_0_3 ch_0_4 ch_0_5 ch_0_6 ch_0_7 ch_0_8 ch_0_9 ch_0_10 ch_0_11 ch_0_12 ch_0_13 ch_0_14 ch_0_15 t1 et1 _ _) ?_; clear S a w; intro ch1 m le1 a w S
 refine s_assign S rfl rfl ?_; clear S a; intro a S
 refine c_end ?_
 refine wp_seq ?_
 refine c_region ?_
 refine s_move S rfl rfl ?_; clear S a; intro a S
 obtain ⟨c1, h2⟩ := chk_of h1; clear h1
 have hl1 := S.slotPlt (u := 14) c1 rfl
 replace S := S.slotP (u := 14) c1 rfl
 refine s_nilchk S rfl rfl ?_; clear S a; intro a S
 refine s_fieldAddr S rfl I110_2 T4 (by decide) rfl rfl ?_; clear S a; intro a S
 replace S := S.famOpen (i := (t1.1.getD 0)) hl1 (.there (.there .here))
 have hS := S.structOpen (T := (YE110 ch1.2.2.1 ch1.2.2.2.1)) (fun _ => .here) (((), (), (), (none, 0), (none, 0)), ((), (), (), (none, 0), (none, 0)), (), (), (), (), ())
 clear S; obtain ⟨ch2, S⟩ := hS
 refine s_load1 S rfl .here T4 (v := (.bool ((atE t1.2.2.1.2.1 (t1.1.getD 0)).2.2.1))) rfl rfl ?_; clear S a; intro a S
 replace S := S.structClose (T := (YE110 ch1.2.2.1 ch1.2.2.2.1)) (e := atE t1.2.2.1.2.1 (t1.1.getD 0)) ((((), (), (), (ch2.1.2.2.2.1.1, ch2.1.2.2.2.1.2), (ch2.1.2.2.2.2.1, ch2.1.2.2.2.2.2)), ((), (), (), (ch2.2.1.2.2.2.1.1, ch2.2.1.2.2.2.1.2), (ch2.2.1.2.2.2.2.1, ch2.2.1.2.2.2.2.2)), (), (), (), (), ()) : ((YE110 ch1.2.2.1 ch1.2.2.2.1)).Ch) rfl .here
 replace S := S.famShut hl1 .here (.there (.there .here))
 refine c_end ?_
 rcases ite_of h2 with ⟨c2, h3⟩ | ⟨c2, h3⟩ <;> clear h2
 ·refine c_condT S rfl c2 ?_
  refine c_region ?_
  refine s_build S (ds := []) (dv := (.agg [.ints .u64 [0, 0, 0, 0] 4])) rfl (fun _ => by kernel_rfl) ⟨rfl, trivial⟩ rfl ?_; clear S a; intro a S
  refine s_store S rfl rfl rfl (s' := [.ints .u64 [0, 0, 0, 0] 4]) (.there (.there (.there (.there (.there (.there (.there (.there .here)))))))) T43 rfl rfl ?_; clear S w; intro w S
  refine c_end ?_
  refine wp_ret ?_
  refine x_thenR ?_
  obtain rfl := Option.some.inj h3
  exact b_ret1 (d := (.agg [.ints .u64 [0, 0, 0, 0] 4])) S rfl (resD_cell rfl (.there (.there (.there (.there (.there (.there (.there (.there .here)))))))) T43 rfl rfl) fun ok => S.retX (Hx := []) hb _ _ ((ch1.1, ch1.2.1, ch1.2.2.1, ch1.2.2.2.1, ch1.2.2.2.2.1, ch1.2.2.2.2.2.1, ch1.2.2.2.2.2.2.1, ch1.2.2.2.2.2.2.2.1, ch1.2.2.2.2.2.2.2.2.1, ch1.2.2.2.2.2.2.2.2.2.1, ch1.2.2.2.2.2.2.2.2.2.2.1, ch1.2.2.2.2.2.2.2.2.2.2.2.1, ch1.2.2.2.2.2.2.2.2.2.2.2.2) : W6) (.cons .here (.cons .here (.cons .here (.cons .here (.cons .here (.cons .here (.cons .here (.cons .here .nil)))))))) ok
 ·refine c_condF S rfl c2 ?_
  refine wp_skip ?_
  refine x_thenN ?_
  refine wp_seq (c_heldS S (.take 0 (.take 4 (.alts (.run 1 true (.take 2 (.alts (.run 3 true (.alts (.run 5 true (.alts (.run 6 false .done .nil)) .nil)) .nil))) .nil)))) 6 [Res.cells ch_0_0 79 [.rf (.iface 75 (.agg (cellsOf [.sl ch_0_1 (x1.1).length ch_0_2 (RdS Y71 ch_0_1 x1.1)]).toArray)) (IfR [.sl ch_0_1 (x1.1).length ch_0_2 (RdS Y71 ch_0_1 x1.1)]), .one (.map (some ch1.1)), .one (.int .i64 x1.2.2.1), .one (.slice ch1.2.2.2.2.1 ch1.2.2.2.2.2.1 ch1.2.2.2.2.2.2.1), .one (.slice ch1.2.2.2.2.2.2.2.1 ch1.2.2.2.2.2.2.2.2.1 ch1.2.2.2.2.2.2.2.2.2.1), .one (.slice ch1.2.2.2.2.2.2.2.2.2.2.1 ch1.2.2.2.2.2.2.2.2.2.2.2.1 ch1.2.2.2.2.2.2.2.2.2.2.2.2)], Res.row (Ty.arr .u8 20) 40 ch1.2.2.2.2.2.2.2.2.2.2.1 ch1.2.2.2.2.2.2.2.2.2.2.2.1 ch1.2.2.2.2.2.2.2.2.2.2.2.2 t1.2.2.2.2.2.2, Res.cells g3 43 [.ints .u64 [0, 0, 0, 0] 4], Res.cells g2 43 [.ints .u64 x3 4], Res.cells g1 40 [.ints .u8 x2 20]] (.cons .here (.cons (.there (.there (.there (.there (.there (.there .here)))))) (.cons (.there (.there (.there (.there (.there (.there .here)))))) (.cons (.there (.there (.there (.there (.there (.there .here)))))) (.cons (.there (.there (.there (.there (.there (.there .here)))))) .nil))))) ⟨Res.stay_cells, Res.stay_row flat_arr, Res.stay_cells, Res.stay_cells, Res.stay_cells, trivial⟩ [(7, (.rf (ptrV ch1.2.1 t1.1) (ptrR ch1.2.1 t1.1))), (5, (.v (.pointer (some ⟨g2, 0, none⟩))))] (subR rfl) (by kernel_rfl) (by kernel_rfl) ?_); clear S; intro w S CL hw le
  refine h_move S CL hw le (subR rfl) rfl rfl rfl trivial ?_; clear S CL a; intro a S CL
  refine h_loada S CL hw le (subR rfl) rfl (.there (.there (.there .here))) T43 (s' := [.ints .u64 x3 4]) rfl rfl rfl trivial ?_; clear S CL a; intro a S CL
  refine h_run' S rfl trivial ?_
  have hl1 := S.slotPlt (u := 19) c1 rfl
  replace S := S.slotP (u := 19) c1 rfl
  replace CL := CL.drop (lq' := [(23, (.agg [.ints .u64 x3 4])), (7, (.rf (ptrV ch1.2.1 t1.1) (ptrR ch1.2.1 t1.1))), (5, (.v (.pointer (some ⟨g2, 0, none⟩))))]) (subR rfl)
  refine s_nilchk S rfl rfl ?_; clear S a; intro a S
  replace hw := CL.again hw S (.cons .here (.cons (.there (.there (.there (.there (.there (.there .here)))))) (.cons (.there (.there (.there (.there (.there (.there .here)))))) (.cons (.there (.there (.there (.there (.there (.there .here)))))) (.cons (.there (.there (.there (.there (.there (.there .here)))))) .nil))))) le
  refine h_back ⟨fun _ => hw, ?_⟩
  replace CL := CL.add (t := 20) (d := (.v (.pointer (some ⟨(bAt ch1.2.1 (t1.1.getD 0)), 0, none⟩)))) S rfl rfl
  refine h_fieldAddr S CL hw le (subR rfl) rfl I110_0 T71 (by decide) rfl rfl rfl trivial ?_; clear S CL a; intro a S CL
  refine h_run' S rfl trivial ?_
  replace S := S.famOpen (i := (t1.1.getD 0)) hl1 (.there (.there .here))
  have hS := S.structOpen (T := (YE110 ch1.2.2.1 ch1.2.2.2.1)) (fun _ => .here) (((), (), (), (none, 0), (none, 0)), ((), (), (), (none, 0), (none, 0)), (), (), (), (), ())
  clear S; obtain ⟨ch3, S⟩ := hS
  refine s_loada S rfl .here T71 (s' := (Y71.segs ((atE t1.2.2.1.2.1 (t1.1.getD 0)).1) ch3.1)) rfl rfl ?_; clear S a; intro a S
  replace S := S.structClose (T := (YE110 ch1.2.2.1 ch1.2.2.2.1)) (e := atE t1.2.2.1.2.1 (t1.1.getD 0)) ((((), (), (), (ch3.1.2.2.2.1.1, ch3.1.2.2.2.1.2), (ch3.1.2.2.2.2.1, ch3.1.2.2.2.2.2)), ((), (), (), (ch3.2.1.2.2.2.1.1, ch3.2.1.2.2.2.1.2), (ch3.2.1.2.2.2.2.1, ch3.2.1.2.2.2.2.2)), (), (), (), (), ()) : ((YE110 ch1.2.2.1 ch1.2.2.2.1)).Ch) rfl .here
  replace S := S.famShut hl1 .here (.there (.there .here))
  replace hw := CL.again hw S (.cons .here (.cons (.there (.there (.there (.there (.there (.there .here)))))) (.cons (.there (.there (.there (.there (.there (.there .here)))))) (.cons (.there (.there (.there (.there (.there (.there .here)))))) (.cons (.there (.there (.there (.there (.there (.there .here)))))) .nil))))) le
  refine h_back ⟨fun _ => hw, ?_⟩
  refine h_run' S rfl trivial ?_
  obtain ⟨t2, et2, h4⟩ := bind_of h3; clear h3
  refine s_callP S (fun (ch : Unit) => ((.agg [.ints .u64 t2 4]) : D)) N57 rfl rfl (state_stored.ok k ((atE t1.2.2.1.2.1 (t1.1.getD 0)).1) x3 ch3.1.2.2.2.1.1 ch3.1.2.2.2.1.2 ch3.1.2.2.2.2.1 ch3.1.2.2.2.2.2 t2 et2 _ _) ?_; clear S a; intro ch4 m le1 a w S
  replace le := le.trans le1
  replace hw := CL.again hw S (.cons .here (.cons (.there (.there (.there (.there (.there (.there .here)))))) (.cons (.there (.there (.there (.there (.there (.there .here)))))) (.cons (.there (.there (.there (.there (.there (.there .here)))))) (.cons (.there (.there (.there (.there (.there (.there .here)))))) .nil))))) le
  refine h_back ⟨fun _ => hw, ?_⟩
  refine h_run' S rfl trivial ?_
  refine s_store S rfl rfl rfl (s' := [.ints .u64 t2 4]) (.there (.there (.there (.there (.there (.there (.there (.there .here)))))))) T43 rfl rfl ?_; clear S; intro w S
  refine h_back ⟨fun h => (nomatch h), ?_⟩
  refine h_done ?_; clear CL hw le
  refine x_thenN ?_
  refine wp_ret ?_
  obtain rfl := Option.some.inj h4
  exact b_ret1 (d := (.agg [.ints .u64 t2 4])) S rfl (resD_cell rfl (.there (.there (.there (.there (.there (.there (.there (.there .here)))))))) T43 rfl rfl) fun ok => S.retX (Hx := []) hb _ _ ((ch1.1, ch1.2.1, ch1.2.2.1, ch1.2.2.2.1, ch1.2.2.2.2.1, ch1.2.2.2.2.2.1, ch1.2.2.2.2.2.2.1, ch1.2.2.2.2.2.2.2.1, ch1.2.2.2.2.2.2.2.2.1, ch1.2.2.2.2.2.2.2.2.2.1, ch1.2.2.2.2.2.2.2.2.2.2.1, ch1.2.2.2.2.2.2.2.2.2.2.2.1, ch1.2.2.2.2.2.2.2.2.2.2.2.2) : W6) (.cons .here (.cons .here (.cons .here (.cons .here (.cons .here (.cons .here (.cons .here (.cons .here .nil)))))))) ok
abbrev state_State_Load.Ty : Type := W1 → (List Int) → (List Int) → Option W19
def state_State_Load.Ctr (s : state_State_Load.Ty) : Prop := ∀ (x1 : W1) (x2 : List Int) (x3 : List Int) (ch_0_0 : Nat) (ch_0_1 : Option Addr) (ch_0_2 : Nat) (ch_0_3 : Nat) (ch_0_4 : List Nat) (ch_0_5 : List Nat) (ch_0_6 : List Nat) (ch_0_7 : Option Addr) (ch_0_8 : Nat) (ch_0_9 : Nat) (ch_0_10 : Option Addr) (ch_0_11 : Nat) (ch_0_12 : Nat) (ch_0_13 : Option Addr) (ch_0_14 : Nat) (ch_0_15 : Nat) (r : W19) (h0 : s x1 x2 x3 = some r) (mi : Mem) (w0 : World), okL mi [(.v (.pointer (some ⟨ch_0_0, 0, none⟩))), (.agg [.ints .u8 x2 20]), (.agg [.ints .u64 x3 4])] → Pre mi [Res.cells ch_0_0 79 [.rf (.iface 75 (.agg (cellsOf [.sl ch_0_1 (x1.1).length ch_0_2 (RdS Y71 ch_0_1 x1.1)]).toArray)) (IfR [.sl ch_0_1 (x1.1).length ch_0_2 (RdS Y71 ch_0_1 x1.1)]), .one (.map (some ch_0_3)), .one (.int .i64 x1.2.2.1), .one (.slice ch_0_7 ch_0_8 ch_0_9), .one (.slice ch_0_10 ch_0_11 ch_0_12), .one (.slice ch_0_13 ch_0_14 ch_0_15)], Res.map true (Ty.arr .u8 20) false (Ty.pid ch_0_4) ch_0_3 x1.2.1.1, Res.fam (Res.struct (YE110 ch_0_5 ch_0_6) 110) (one_struct _ _) ch_0_4 [] x1.2.1.2.1, Res.fam (fun g_ kvs_ => Res.map true (Ty.arr .u64 4) true (Ty.arr .u64 4) g_ kvs_) (one_map true (Ty.arr .u64 4) true (Ty.arr .u64 4)) ch_0_5 [] x1.2.1.2.2.1, Res.fam (fun g_ kvs_ => Res.map true (Ty.arr .u64 4) false Ty.bool g_ kvs_) (one_map true (Ty.arr .u64 4) false Ty.bool) ch_0_6 [] x1.2.1.2.2.2, Res.row Y100 100 ch_0_7 ch_0_8 ch_0_9 x1.2.2.2.1, Res.row (YC ch_0_0 ch_0_4 ch_0_5 ch_0_6) 1 ch_0_10 ch_0_11 ch_0_12 x1.2.2.2.2.1, Res.row (Ty.arr .u8 20) 40 ch_0_13 ch_0_14 ch_0_15 x1.2.2.2.2.2] w0 → Calls Tryz.prog 21 (([(.v (.pointer (some ⟨ch_0_0, 0, none⟩))), (.agg [.ints .u8 x2 20]), (.agg [.ints .u64 x3 4])] : List D).map D.val).toArray w0 (RetX mi [Res.cells ch_0_0 79 [.rf (.iface 75 (.agg (cellsOf [.sl ch_0_1 (x1.1).length ch_0_2 (RdS Y71 ch_0_1 x1.1)]).toArray)) (IfR [.sl ch_0_1 (x1.1).length ch_0_2 (RdS Y71 ch_0_1 x1.1)]), .one (.map (some ch_0_3)), .one (.int .i64 x1.2.2.1), .one (.slice ch_0_7 ch_0_8 ch_0_9), .one (.slice ch_0_10 ch_0_11 ch_0_12), .one (.slice ch_0_13 ch_0_14 ch_0_15)], Res.map true (Ty.arr .u8 20) false (Ty.pid ch_0_4) ch_0_3 x1.2.1.1, Res.fam (Res.struct (YE110 ch_0_5 ch_0_6) 110) (one_struct _ _) ch_0_4 [] x1.2.1.2.1, Res.fam (fun g_ kvs_ => Res.map true (Ty.arr .u64 4) true (Ty.arr .u64 4) g_ kvs_) (one_map true (Ty.arr .u64 4) true (Ty.arr .u64 4)) ch_0_5 [] x1.2.1.2.2.1, Res.fam (fun g_ kvs_ => Res.map true (Ty.arr .u64 4) false Ty.bool g_ kvs_) (one_map true (Ty.arr .u64 4) false Ty.bool) ch_0_6 [] x1.2.1.2.2.2, Res.row Y100 100 ch_0_7 ch_0_8 ch_0_9 x1.2.2.2.1, Res.row (YC ch_0_0 ch_0_4 ch_0_5 ch_0_6) 1 ch_0_10 ch_0_11 ch_0_12 x1.2.2.2.2.1, Res.row (Ty.arr .u8 20) 40 ch_0_13 ch_0_14 ch_0_15 x1.2.2.2.2.2] (fun (ch : W6) => ((.agg [.ints .u64 r.1 4]) : D)) (fun (ch : W6) => [Res.cells ch_0_0 79 [.rf (.iface 75 (.agg (cellsOf [.sl ch_0_1 (x1.1).length ch_0_2 (RdS Y71 ch_0_1 x1.1)]).toArray)) (IfR [.sl ch_0_1 (x1.1).length ch_0_2 (RdS Y71 ch_0_1 x1.1)]), .one (.map (some ch.1)), .one (.int .i64 x1.2.2.1), .one (.slice ch.2.2.2.2.1 ch.2.2.2.2.2.1 ch.2.2.2.2.2.2.1), .one (.slice ch.2.2.2.2.2.2.2.1 ch.2.2.2.2.2.2.2.2.1 ch.2.2.2.2.2.2.2.2.2.1), .one (.slice ch.2.2.2.2.2.2.2.2.2.2.1 ch.2.2.2.2.2.2.2.2.2.2.2.1 ch.2.2.2.2.2.2.2.2.2.2.2.2)], Res.map true (Ty.arr .u8 20) false (Ty.pid ch.2.1) ch.1 r.2.2.1.1, Res.fam (Res.struct (YE110 ch.2.2.1 ch.2.2.2.1) 110) (one_struct _ _) ch.2.1 [] r.2.2.1.2.1, Res.fam (fun g_ kvs_ => Res.map true (Ty.arr .u64 4) true (Ty.arr .u64 4) g_ kvs_) (one_map true (Ty.arr .u64 4) true (Ty.arr .u64 4)) ch.2.2.1 [] r.2.2.1.2.2.1, Res.fam (fun g_ kvs_ => Res.map true (Ty.arr .u64 4) false Ty.bool g_ kvs_) (one_map true (Ty.arr .u64 4) false Ty.bool) ch.2.2.2.1 [] r.2.2.1.2.2.2, Res.row Y100 100 ch.2.2.2.2.1 ch.2.2.2.2.2.1 ch.2.2.2.2.2.2.1 r.2.2.2.2.1, Res.row (YC ch_0_0 ch.2.1 ch.2.2.1 ch.2.2.2.1) 1 ch.2.2.2.2.2.2.2.1 ch.2.2.2.2.2.2.2.2.1 ch.2.2.2.2.2.2.2.2.2.1 r.2.2.2.2.2.1, Res.row (Ty.arr .u8 20) 40 ch.2.2.2.2.2.2.2.2.2.2.1 ch.2.2.2.2.2.2.2.2.2.2.2.1 ch.2.2.2.2.2.2.2.2.2.2.2.2 r.2.2.2.2.2.2]) w0)
def state_State_Load.j1 (k : Nat) (x1 : W1) (x2 : List Int) (x3 : List Int) (y1 : Bool) (y2 : W15) (y3 : List L110) (y4 : W16) (y5 : W17) (y6 : List L100) (y7 : List Clo) (y8 : List (List Int)) (y9 : List Int) : Option W19 := if y1 = true then (some (y9, ((), (y2, y3, y4, y5), (), y6, y7, y8))) else ((state_State_First.f k ((x1.1), (y2, y3, y4, y5), x1.2.2.1, y6, y7, y8) x2 x3).bind fun t1 => (some (t1.1, ((), t1.2.2.1, (), t1.2.2.2.2.1, t1.2.2.2.2.2.1, t1.2.2.2.2.2.2))))
def state_State_Load.f (k : Nat) (x1 : W1) (x2 : List Int) (x3 : List Int) : Option W19 := (state_State_at.f k ((x1.1), x1.2.1, x1.2.2.1, x1.2.2.2.1, x1.2.2.2.2.1, x1.2.2.2.2.2) x2).bind fun t2 => (if t2.1.isSome = true then (state_State_Load.j1 k x1 x2 x3 ((lk (aget (atE t2.2.2.1.2.2.1 ((atE t2.2.2.1.2.1 (t2.1.getD 0)).2.2.2.1)) x3) [0, 0, 0, 0]).2) t2.2.2.1.1 t2.2.2.1.2.1 t2.2.2.1.2.2.1 t2.2.2.1.2.2.2 t2.2.2.2.2.1 t2.2.2.2.2.2.1 t2.2.2.2.2.2.2 ((lk (aget (atE t2.2.2.1.2.2.1 ((atE t2.2.2.1.2.1 (t2.1.getD 0)).2.2.2.1)) x3) [0, 0, 0, 0]).1)) else none)
theorem state_State_Load.ok (k : Nat) : state_State_Load.Ctr (state_State_Load.f k) := by
 intro x1 x2 x3 ch_0_0 ch_0_1 ch_0_2 ch_0_3 ch_0_4 ch_0_5 ch_0_6 ch_0_7 ch_0_8 ch_0_9 ch_0_10 ch_0_11 ch_0_12 ch_0_13 ch_0_14 ch_0_15 r h0 mi w0 ok hm
 delta state_State_Load.f at h0
 refine c_enterX (n := 29) [(.v (.pointer (some ⟨ch_0_0, 0, none⟩))), (.agg [.ints .u8 x2 20]), (.agg [.ints .u64 x3 4])] (l := [(0, (.v (.pointer (some ⟨ch_0_0, 0, none⟩)))), (1, (.agg [.ints .u8 x2 20])), (2, (.agg [.ints .u64 x3 4]))]) Tryz.func21 rfl rfl rfl rfl ok hm ?_
 clear ok hm
 intro b0 hb a S
 refine c_region ?_
 refine s_box S rfl rfl rfl ?_; clear S a; intro g1 a w S
 refine s_box S rfl rfl rfl ?_; clear S a w; intro g2 a w S
 refine s_alloc S Z43 rfl ⟨rfl, trivial⟩ rfl ?_; clear S a w; intro g3 a w S
 refine c_end ?_
 refine wp_seq ?_
 refine c_region ?_
 refine s_move S rfl rfl ?_; clear S a; intro a S
 refine s_eqp S (b := false) rfl rfl Tryz.underlying26 rfl rfl ?_; clear S a; intro a S
 refine c_end ?_
 refine c_condF S rfl rfl ?_
 refine wp_skip ?_
 refine x_thenN ?_
 refine wp_seq ?_
 refine wp_seq_k ?_
 intro K1 hK1
 have j1 : ∀ (m : Mem) (y1 : Bool) (g5 : Nat) (g6 : Nat) (g7 : Nat) (g8 : Nat) (g9 : Nat) (y2 : List ((List Int) × Option Nat)) (G1 : List Nat) (G2 : List Nat) (G3 : List Nat) (y3 : List L110) (y4 : List (List ((List Int) × (List Int)))) (y5 : List (List ((List Int) × Bool))) (A1 : Option Addr) (nn1 : Nat) (cp1 : Nat) (y6 : List L100) (A2 : Option Addr) (nn2 : Nat) (cp2 : Nat) (y7 : List Clo) (A3 : Option Addr) (nn3 : Nat) (cp3 : Nat) (y8 : List (List Int)) (y9 : List Int) (a : Act) (w : World), St 29 m b0 [(8, (.v (.bool y1))), (7, (.v (.pointer (some ⟨g5, 0, none⟩)))), (6, (.v (.pointer (some ⟨g6, 0, none⟩)))), (5, (.v (.pointer (some ⟨g7, 0, none⟩)))), (4, (.v (.pointer (some ⟨g8, 0, none⟩)))), (0, (.v (.pointer (some ⟨ch_0_0, 0, none⟩))))] [Res.cells g5 43 [.ints .u64 y9 4], Res.cells ch_0_0 79 [.rf (.iface 75 (.agg (cellsOf [.sl ch_0_1 (x1.1).length ch_0_2 (RdS Y71 ch_0_1 x1.1)]).toArray)) (IfR [.sl ch_0_1 (x1.1).length ch_0_2 (RdS Y71 ch_0_1 x1.1)]), .one (.map (some g9)), .one (.int .i64 x1.2.2.1), .one (.slice A1 nn1 cp1), .one (.slice A2 nn2 cp2), .one (.slice A3 nn3 cp3)], Res.map true (Ty.arr .u8 20) false (Ty.pid G1) g9 y2, Res.fam (Res.struct (YE110 G2 G3) 110) (one_struct _ _) G1 [] y3, Res.fam (fun g_ kvs_ => Res.map true (Ty.arr .u64 4) true (Ty.arr .u64 4) g_ kvs_) (one_map true (Ty.arr .u64 4) true (Ty.arr .u64 4)) G2 [] y4, Res.fam (fun g_ kvs_ => Res.map true (Ty.arr .u64 4) false Ty.bool g_ kvs_) (one_map true (Ty.arr .u64 4) false Ty.bool) G3 [] y5, Res.row Y100 100 A1 nn1 cp1 y6, Res.row (YC ch_0_0 G1 G2 G3) 1 A2 nn2 cp2 y7, Res.row (Ty.arr .u8 20) 40 A3 nn3 cp3 y8, Res.cells g6 43 [.ints .u64 [0, 0, 0, 0] 4], Res.cells g7 43 [.ints .u64 x3 4], Res.cells g8 40 [.ints .u8 x2 20]] a w → state_State_Load.j1 k x1 x2 x3 y1 y2 y3 y4 y5 y6 y7 y8 y9 = some r → K1 a w := by
  intro m y1 g5 g6 g7 g8 g9 y2 G1 G2 G3 y3 y4 y5 A1 nn1 cp1 y6 A2 nn2 cp2 y7 A3 nn3 cp3 y8 y9 a w S h0
  delta state_State_Load.j1 at h0
  refine hK1 a w ?_
  refine c_region ?_
  refine s_move S rfl rfl ?_; clear S a; intro a S
  refine c_end ?_
  rcases ite_of h0 with ⟨c1, h1⟩ | ⟨c1, h1⟩ <;> clear h0
  ·refine c_condT S rfl c1 ?_
   refine c_region ?_
   refine s_loada S rfl .here T43 (s' := [.ints .u64 y9 4]) rfl rfl ?_; clear S a; intro a S
   refine s_store S rfl rfl rfl (s' := [.ints .u64 y9 4]) (.there (.there (.there (.there (.there (.there (.there (.there (.there .here))))))))) T43 rfl rfl ?_; clear S w; intro w S
   refine c_end ?_
   refine wp_ret ?_
   refine x_thenR ?_
   obtain rfl := Option.some.inj h1
   exact b_ret1 (d := (.agg [.ints .u64 y9 4])) S rfl (resD_cell rfl (.there (.there (.there (.there (.there (.there (.there (.there (.there .here))))))))) T43 rfl rfl) fun ok => S.retX (Hx := []) hb _ _ ((g9, G1, G2, G3, A1, nn1, cp1, A2, nn2, cp2, A3, nn3, cp3) : W6) (.cons (.there .here) (.cons (.there .here) (.cons (.there .here) (.cons (.there .here) (.cons (.there .here) (.cons (.there .here) (.cons (.there .here) (.cons (.there .here) .nil)))))))) ok
  ·refine c_condF S rfl c1 ?_
   refine wp_skip ?_
   refine x_thenN ?_
   refine c_region ?_
   refine s_move S rfl rfl ?_; clear S a; intro a S
   refine s_loada S rfl (.there (.there (.there (.there (.there (.there (.there (.there (.there (.there (.there .here))))))))))) T40 (s' := [.ints .u8 x2 20]) rfl rfl ?_; clear S a; intro a S
   refine s_loada S rfl (.there (.there (.there (.there (.there (.there (.there (.there (.there (.there .here)))))))))) T43 (s' := [.ints .u64 x3 4]) rfl rfl ?_; clear S a; intro a S
   obtain ⟨t1, et1, h2⟩ := bind_of h1; clear h1
   refine s_callX S (ds' := [(.v (.pointer (some ⟨ch_0_0, 0, none⟩))), (.agg [.ints .u8 x2 20]), (.agg [.ints .u64 x3 4])]) (ds := [(.v (.pointer (some ⟨ch_0_0, 0, none⟩))), (.agg [.ints .u8 x2 20]), (.agg [.ints .u64 x3 4])]) [Res.cells ch_0_0 79 [.rf (.iface 75 (.agg (cellsOf [.sl ch_0_1 (x1.1).length ch_0_2 (RdS Y71 ch_0_1 x1.1)]).toArray)) (IfR [.sl ch_0_1 (x1.1).length ch_0_2 (RdS Y71 ch_0_1 x1.1)]), .one (.map (some g9)), .one (.int .i64 x1.2.2.1), .one (.slice A1 nn1 cp1), .one (.slice A2 nn2 cp2), .one (.slice A3 nn3 cp3)], Res.map true (Ty.arr .u8 20) false (Ty.pid G1) g9 y2, Res.fam (Res.struct (YE110 G2 G3) 110) (one_struct _ _) G1 [] y3, Res.fam (fun g_ kvs_ => Res.map true (Ty.arr .u64 4) true (Ty.arr .u64 4) g_ kvs_) (one_map true (Ty.arr .u64 4) true (Ty.arr .u64 4)) G2 [] y4, Res.fam (fun g_ kvs_ => Res.map true (Ty.arr .u64 4) false Ty.bool g_ kvs_) (one_map true (Ty.arr .u64 4) false Ty.bool) G3 [] y5, Res.row Y100 100 A1 nn1 cp1 y6, Res.row (YC ch_0_0 G1 G2 G3) 1 A2 nn2 cp2 y7, Res.row (Ty.arr .u8 20) 40 A3 nn3 cp3 y8] [Res.cells g5 43 [.ints .u64 y9 4], Res.cells g6 43 [.ints .u64 [0, 0, 0, 0] 4], Res.cells g7 43 [.ints .u64 x3 4], Res.cells g8 40 [.ints .u8 x2 20]] (fun (ch : W6) => ((.agg [.ints .u64 t1.1 4]) : D)) (fun (ch : W6) => [Res.cells ch_0_0 79 [.rf (.iface 75 (.agg (cellsOf [.sl ch_0_1 (x1.1).length ch_0_2 (RdS Y71 ch_0_1 x1.1)]).toArray)) (IfR [.sl ch_0_1 (x1.1).length ch_0_2 (RdS Y71 ch_0_1 x1.1)]), .one (.map (some ch.1)), .one (.int .i64 x1.2.2.1), .one (.slice ch.2.2.2.2.1 ch.2.2.2.2.2.1 ch.2.2.2.2.2.2.1), .one (.slice ch.2.2.2.2.2.2.2.1 ch.2.2.2.2.2.2.2.2.1 ch.2.2.2.2.2.2.2.2.2.1), .one (.slice ch.2.2.2.2.2.2.2.2.2.2.1 ch.2.2.2.2.2.2.2.2.2.2.2.1 ch.2.2.2.2.2.2.2.2.2.2.2.2)], Res.map true (Ty.arr .u8 20) false (Ty.pid ch.2.1) ch.1 t1.2.2.1.1, Res.fam (Res.struct (YE110 ch.2.2.1 ch.2.2.2.1) 110) (one_struct _ _) ch.2.1 [] t1.2.2.1.2.1, Res.fam (fun g_ kvs_ => Res.map true (Ty.arr .u64 4) true (Ty.arr .u64 4) g_ kvs_) (one_map true (Ty.arr .u64 4) true (Ty.arr .u64 4)) ch.2.2.1 [] t1.2.2.1.2.2.1, Res.fam (fun g_ kvs_ => Res.map true (Ty.arr .u64 4) false Ty.bool g_ kvs_) (one_map true (Ty.arr .u64 4) false Ty.bool) ch.2.2.2.1 [] t1.2.2.1.2.2.2, Res.row Y100 100 ch.2.2.2.2.1 ch.2.2.2.2.2.1 ch.2.2.2.2.2.2.1 t1.2.2.2.2.1, Res.row (YC ch_0_0 ch.2.1 ch.2.2.1 ch.2.2.2.1) 1 ch.2.2.2.2.2.2.2.1 ch.2.2.2.2.2.2.2.2.1 ch.2.2.2.2.2.2.2.2.2.1 t1.2.2.2.2.2.1, Res.row (Ty.arr .u8 20) 40 ch.2.2.2.2.2.2.2.2.2.2.1 ch.2.2.2.2.2.2.2.2.2.2.2.1 ch.2.2.2.2.2.2.2.2.2.2.2.2 t1.2.2.2.2.2.2]) (fun (ch : W6) => [Res.cells ch_0_0 79 [.rf (.iface 75 (.agg (cellsOf [.sl ch_0_1 (x1.1).length ch_0_2 (RdS Y71 ch_0_1 x1.1)]).toArray)) (IfR [.sl ch_0_1 (x1.1).length ch_0_2 (RdS Y71 ch_0_1 x1.1)]), .one (.map (some ch.1)), .one (.int .i64 x1.2.2.1), .one (.slice ch.2.2.2.2.1 ch.2.2.2.2.2.1 ch.2.2.2.2.2.2.1), .one (.slice ch.2.2.2.2.2.2.2.1 ch.2.2.2.2.2.2.2.2.1 ch.2.2.2.2.2.2.2.2.2.1), .one (.slice ch.2.2.2.2.2.2.2.2.2.2.1 ch.2.2.2.2.2.2.2.2.2.2.2.1 ch.2.2.2.2.2.2.2.2.2.2.2.2)], Res.map true (Ty.arr .u8 20) false (Ty.pid ch.2.1) ch.1 t1.2.2.1.1, Res.fam (Res.struct (YE110 ch.2.2.1 ch.2.2.2.1) 110) (one_struct _ _) ch.2.1 [] t1.2.2.1.2.1, Res.fam (fun g_ kvs_ => Res.map true (Ty.arr .u64 4) true (Ty.arr .u64 4) g_ kvs_) (one_map true (Ty.arr .u64 4) true (Ty.arr .u64 4)) ch.2.2.1 [] t1.2.2.1.2.2.1, Res.fam (fun g_ kvs_ => Res.map true (Ty.arr .u64 4) false Ty.bool g_ kvs_) (one_map true (Ty.arr .u64 4) false Ty.bool) ch.2.2.2.1 [] t1.2.2.1.2.2.2, Res.row Y100 100 ch.2.2.2.2.1 ch.2.2.2.2.2.1 ch.2.2.2.2.2.2.1 t1.2.2.2.2.1, Res.row (YC ch_0_0 ch.2.1 ch.2.2.1 ch.2.2.2.1) 1 ch.2.2.2.2.2.2.2.1 ch.2.2.2.2.2.2.2.2.1 ch.2.2.2.2.2.2.2.2.2.1 t1.2.2.2.2.2.1, Res.row (Ty.arr .u8 20) 40 ch.2.2.2.2.2.2.2.2.2.2.1 ch.2.2.2.2.2.2.2.2.2.2.2.1 ch.2.2.2.2.2.2.2.2.2.2.2.2 t1.2.2.2.2.2.2, Res.cells g5 43 [.ints .u64 y9 4], Res.cells g6 43 [.ints .u64 [0, 0, 0, 0] 4], Res.cells g7 43 [.ints .u64 x3 4], Res.cells g8 40 [.ints .u8 x2 20]]) (fun _ => rfl) N22 rfl rfl (fun ok => ok) (.cons (.there .here) (.cons (.there .here) (.cons (.there .here) (.cons (.there .here) (.cons (.there .here) (.cons (.there .here) (.cons (.there .here) (.cons (.there .here) (.cons .here (.cons .here (.cons .here (.cons .here .nil)))))))))))) rfl (state_State_First.ok k ((x1.1), (y2, y3, y4, y5), x1.2.2.1, y6, y7, y8) x2 x3 ch_0_0 ch_0_1 ch_0_2 g9 G1 G2 G3 A1 nn1 cp1 A2 nn2 cp2 A3 nn3 cp3 t1 et1 _ _) ?_; clear S a w; intro ch1 m le1 a w S
   refine s_store S rfl rfl rfl (s' := [.ints .u64 t1.1 4]) (.there (.there (.there (.there (.there (.there (.there (.there (.there .here))))))))) T43 rfl rfl ?_; clear S w; intro w S
   refine c_end ?_
   refine wp_ret ?_
   obtain rfl := Option.some.inj h2
   exact b_ret1 (d := (.agg [.ints .u64 t1.1 4])) S rfl (resD_cell rfl (.there (.there (.there (.there (.there (.there (.there (.there (.there .here))))))))) T43 rfl rfl) fun ok => S.retX (Hx := []) hb _ _ ((ch1.1, ch1.2.1, ch1.2.2.1, ch1.2.2.2.1, ch1.2.2.2.2.1, ch1.2.2.2.2.2.1, ch1.2.2.2.2.2.2.1, ch1.2.2.2.2.2.2.2.1, ch1.2.2.2.2.2.2.2.2.1, ch1.2.2.2.2.2.2.2.2.2.1, ch1.2.2.2.2.2.2.2.2.2.2.1, ch1.2.2.2.2.2.2.2.2.2.2.2.1, ch1.2.2.2.2.2.2.2.2.2.2.2.2) : W6) (.cons .here (.cons .here (.cons .here (.cons .here (.cons .here (.cons .here (.cons .here (.cons .here .nil)))))))) ok
 refine c_heldS S (.take 0 (.take 1 (.take 6 (.alts (.run 2 true (.alts (.run 3 true (.take 4 (.alts (.run 5 true (.alts (.run 7 false (.pure 8 (.pure 9 (.pure 10 (.alts (.run 11 false (.alts (.run 12 false (.alts (.run 13 false .done .nil)) .nil)) .nil))))) (.run 11 true (.alts (.run 7 false (.pure 8 (.pure 9 (.pure 10 (.alts (.run 12 false (.alts (.run 13 false .done .nil)) .nil))))) .nil)) .nil))) (.run 11 true (.alts (.run 5 true (.alts (.run 7 false (.pure 8 (.pure 9 (.pure 10 (.alts (.run 12 false (.alts (.run 13 false .done .nil)) .nil))))) .nil)) .nil)) .nil)))) (.run 11 true (.alts (.run 3 true (.take 4 (.alts (.run 5 true (.alts (.run 7 false (.pure 8 (.pure 9 (.pure 10 (.alts (.run 12 false (.alts (.run 13 false .done .nil)) .nil))))) .nil)) .nil))) .nil)) .nil))) (.run 11 true (.alts (.run 2 true (.alts (.run 3 true (.take 4 (.alts (.run 5 true (.alts (.run 7 false (.pure 8 (.pure 9 (.pure 10 (.alts (.run 12 false (.alts (.run 13 false .done .nil)) .nil))))) .nil)) .nil))) .nil)) .nil)) .nil)))))) 7 [Res.cells g3 43 [.ints .u64 [0, 0, 0, 0] 4], Res.cells g2 43 [.ints .u64 x3 4], Res.cells g1 40 [.ints .u8 x2 20]] (.cons .here (.cons .here (.cons .here .nil))) ⟨Res.stay_cells, Res.stay_cells, Res.stay_cells, trivial⟩ [(5, (.v (.pointer (some ⟨g2, 0, none⟩)))), (4, (.v (.pointer (some ⟨g1, 0, none⟩)))), (0, (.v (.pointer (some ⟨ch_0_0, 0, none⟩))))] (subR rfl) (by kernel_rfl) (by kernel_rfl) ?_; clear S; intro w S CL hw le
 refine h_move S CL hw le (subR rfl) rfl rfl rfl trivial ?_; clear S CL a; intro a S CL
 refine h_loada S CL hw le (subR rfl) rfl (.there (.there .here)) T40 (s' := [.ints .u8 x2 20]) rfl rfl rfl trivial ?_; clear S CL a; intro a S CL
 refine h_loada S CL hw le (subR rfl) rfl (.there .here) T43 (s' := [.ints .u64 x3 4]) rfl rfl rfl trivial ?_; clear S CL a; intro a S CL
 obtain ⟨t2, et2, h1⟩ := bind_of h0; clear h0
 obtain ⟨c2, h2⟩ := chk_of h1; clear h1
 refine h_alts ?_
 refine h_runO S rfl trivial ?_ ?_
 ·refine s_callX S (ds' := [(.v (.pointer (some ⟨ch_0_0, 0, none⟩))), (.agg [.ints .u8 x2 20])]) (ds := [(.v (.pointer (some ⟨ch_0_0, 0, none⟩))), (.agg [.ints .u8 x2 20])]) [Res.cells ch_0_0 79 [.rf (.iface 75 (.agg (cellsOf [.sl ch_0_1 (x1.1).length ch_0_2 (RdS Y71 ch_0_1 x1.1)]).toArray)) (IfR [.sl ch_0_1 (x1.1).length ch_0_2 (RdS Y71 ch_0_1 x1.1)]), .one (.map (some ch_0_3)), .one (.int .i64 x1.2.2.1), .one (.slice ch_0_7 ch_0_8 ch_0_9), .one (.slice ch_0_10 ch_0_11 ch_0_12), .one (.slice ch_0_13 ch_0_14 ch_0_15)], Res.map true (Ty.arr .u8 20) false (Ty.pid ch_0_4) ch_0_3 x1.2.1.1, Res.fam (Res.struct (YE110 ch_0_5 ch_0_6) 110) (one_struct _ _) ch_0_4 [] x1.2.1.2.1, Res.fam (fun g_ kvs_ => Res.map true (Ty.arr .u64 4) true (Ty.arr .u64 4) g_ kvs_) (one_map true (Ty.arr .u64 4) true (Ty.arr .u64 4)) ch_0_5 [] x1.2.1.2.2.1, Res.fam (fun g_ kvs_ => Res.map true (Ty.arr .u64 4) false Ty.bool g_ kvs_) (one_map true (Ty.arr .u64 4) false Ty.bool) ch_0_6 [] x1.2.1.2.2.2, Res.row Y100 100 ch_0_7 ch_0_8 ch_0_9 x1.2.2.2.1, Res.row (YC ch_0_0 ch_0_4 ch_0_5 ch_0_6) 1 ch_0_10 ch_0_11 ch_0_12 x1.2.2.2.2.1, Res.row (Ty.arr .u8 20) 40 ch_0_13 ch_0_14 ch_0_15 x1.2.2.2.2.2] [Res.cells g3 43 [.ints .u64 [0, 0, 0, 0] 4], Res.cells g2 43 [.ints .u64 x3 4], Res.cells g1 40 [.ints .u8 x2 20]] (fun (ch : W6) => ((.rf (ptrV ch.2.1 t2.1) (ptrR ch.2.1 t2.1)) : D)) (fun (ch : W6) => [Res.cells ch_0_0 79 [.rf (.iface 75 (.agg (cellsOf [.sl ch_0_1 (x1.1).length ch_0_2 (RdS Y71 ch_0_1 x1.1)]).toArray)) (IfR [.sl ch_0_1 (x1.1).length ch_0_2 (RdS Y71 ch_0_1 x1.1)]), .one (.map (some ch.1)), .one (.int .i64 x1.2.2.1), .one (.slice ch.2.2.2.2.1 ch.2.2.2.2.2.1 ch.2.2.2.2.2.2.1), .one (.slice ch.2.2.2.2.2.2.2.1 ch.2.2.2.2.2.2.2.2.1 ch.2.2.2.2.2.2.2.2.2.1), .one (.slice ch.2.2.2.2.2.2.2.2.2.2.1 ch.2.2.2.2.2.2.2.2.2.2.2.1 ch.2.2.2.2.2.2.2.2.2.2.2.2)], Res.map true (Ty.arr .u8 20) false (Ty.pid ch.2.1) ch.1 t2.2.2.1.1, Res.fam (Res.struct (YE110 ch.2.2.1 ch.2.2.2.1) 110) (one_struct _ _) ch.2.1 [] t2.2.2.1.2.1, Res.fam (fun g_ kvs_ => Res.map true (Ty.arr .u64 4) true (Ty.arr .u64 4) g_ kvs_) (one_map true (Ty.arr .u64 4) true (Ty.arr .u64 4)) ch.2.2.1 [] t2.2.2.1.2.2.1, Res.fam (fun g_ kvs_ => Res.map true (Ty.arr .u64 4) false Ty.bool g_ kvs_) (one_map true (Ty.arr .u64 4) false Ty.bool) ch.2.2.2.1 [] t2.2.2.1.2.2.2, Res.row Y100 100 ch.2.2.2.2.1 ch.2.2.2.2.2.1 ch.2.2.2.2.2.2.1 t2.2.2.2.2.1, Res.row (YC ch_0_0 ch.2.1 ch.2.2.1 ch.2.2.2.1) 1 ch.2.2.2.2.2.2.2.1 ch.2.2.2.2.2.2.2.2.1 ch.2.2.2.2.2.2.2.2.2.1 t2.2.2.2.2.2.1, Res.row (Ty.arr .u8 20) 40 ch.2.2.2.2.2.2.2.2.2.2.1 ch.2.2.2.2.2.2.2.2.2.2.2.1 ch.2.2.2.2.2.2.2.2.2.2.2.2 t2.2.2.2.2.2.2]) (fun (ch : W6) => [Res.cells ch_0_0 79 [.rf (.iface 75 (.agg (cellsOf [.sl ch_0_1 (x1.1).length ch_0_2 (RdS Y71 ch_0_1 x1.1)]).toArray)) (IfR [.sl ch_0_1 (x1.1).length ch_0_2 (RdS Y71 ch_0_1 x1.1)]), .one (.map (some ch.1)), .one (.int .i64 x1.2.2.1), .one (.slice ch.2.2.2.2.1 ch.2.2.2.2.2.1 ch.2.2.2.2.2.2.1), .one (.slice ch.2.2.2.2.2.2.2.1 ch.2.2.2.2.2.2.2.2.1 ch.2.2.2.2.2.2.2.2.2.1), .one (.slice ch.2.2.2.2.2.2.2.2.2.2.1 ch.2.2.2.2.2.2.2.2.2.2.2.1 ch.2.2.2.2.2.2.2.2.2.2.2.2)], Res.map true (Ty.arr .u8 20) false (Ty.pid ch.2.1) ch.1 t2.2.2.1.1, Res.fam (Res.struct (YE110 ch.2.2.1 ch.2.2.2.1) 110) (one_struct _ _) ch.2.1 [] t2.2.2.1.2.1, Res.fam (fun g_ kvs_ => Res.map true (Ty.arr .u64 4) true (Ty.arr .u64 4) g_ kvs_) (one_map true (Ty.arr .u64 4) true (Ty.arr .u64 4)) ch.2.2.1 [] t2.2.2.1.2.2.1, Res.fam (fun g_ kvs_ => Res.map true (Ty.arr .u64 4) false Ty.bool g_ kvs_) (one_map true (Ty.arr .u64 4) false Ty.bool) ch.2.2.2.1 [] t2.2.2.1.2.2.2, Res.row Y100 100 ch.2.2.2.2.1 ch.2.2.2.2.2.1 ch.2.2.2.2.2.2.1 t2.2.2.2.2.1, Res.row (YC ch_0_0 ch.2.1 ch.2.2.1 ch.2.2.2.1) 1 ch.2.2.2.2.2.2.2.1 ch.2.2.2.2.2.2.2.2.1 ch.2.2.2.2.2.2.2.2.2.1 t2.2.2.2.2.2.1, Res.row (Ty.arr .u8 20) 40 ch.2.2.2.2.2.2.2.2.2.2.1 ch.2.2.2.2.2.2.2.2.2.2.2.1 ch.2.2.2.2.2.2.2.2.2.2.2.2 t2.2.2.2.2.2.2, Res.cells g3 43 [.ints .u64 [0, 0, 0, 0] 4], Res.cells g2 43 [.ints .u64 x3 4], Res.cells g1 40 [.ints .u8 x2 20]]) (fun _ => rfl) N56 rfl rfl (fun ok => ok) (.cons (.there (.there (.there .here))) (.cons (.there (.there (.there .here))) (.cons (.there (.there (.there .here))) (.cons (.there (.there (.there .here))) (.cons (.there (.there (.there .here))) (.cons (.there (.there (.there .here))) (.cons (.there (.there (.there .here))) (.cons (.there (.there (.there .here))) (.cons .here (.cons .here (.cons .here .nil))))))))))) rfl (state_State_at.ok k ((x1.1), x1.2.1, x1.2.2.1, x1.2.2.2.1, x1.2.2.2.2.1, x1.2.2.2.2.2) x2 ch_0_0 ch_0_1 ch_0_2 ch_0_3 ch_0_4 ch_0_5 ch_0_6 ch_0_7 ch_0_8 ch_0_9 ch_0_10 ch_0_11 ch_0_12 ch_0_13 ch_0_14 ch_0_15 t2 et2 _ _) ?_; clear S a; intro ch2 m le1 a w S
  replace le := le.trans le1
  replace hw := CL.again hw S (.cons (.there (.there (.there (.there (.there (.there (.there (.there .here)))))))) (.cons (.there (.there (.there (.there (.there (.there (.there (.there .here)))))))) (.cons (.there (.there (.there (.there (.there (.there (.there (.there .here)))))))) .nil))) le
  refine h_back ⟨fun _ => hw, ?_⟩
  refine h_alts ?_
  refine h_runO S rfl trivial ?_ ?_
  ·have hl2 := S.slotPlt (u := 15) c2 rfl
   replace S := S.slotP (u := 15) c2 rfl
   refine s_nilchk S rfl rfl ?_; clear S a; intro a S
   replace hw := CL.again hw S (.cons (.there (.there (.there (.there (.there (.there (.there (.there .here)))))))) (.cons (.there (.there (.there (.there (.there (.there (.there (.there .here)))))))) (.cons (.there (.there (.there (.there (.there (.there (.there (.there .here)))))))) .nil))) le
   refine h_back ⟨fun _ => hw, ?_⟩
   replace CL := CL.add (t := 16) (d := (.v (.pointer (some ⟨(bAt ch2.2.1 (t2.1.getD 0)), 0, none⟩)))) S rfl rfl
   refine h_fieldAddr S CL hw le (subR rfl) rfl I110_3 T107 (by decide) rfl rfl rfl trivial ?_; clear S CL a; intro a S CL
   refine h_alts ?_
   refine h_runO S rfl trivial ?_ ?_
   ·replace S := S.famOpen (i := (t2.1.getD 0)) hl2 (.there (.there .here))
    have hS := S.structOpen (T := (YE110 ch2.2.2.1 ch2.2.2.2.1)) (fun _ => .here) (((), (), (), (none, 0), (none, 0)), ((), (), (), (none, 0), (none, 0)), (), (), (), (), ())
    clear S; obtain ⟨ch3, S⟩ := hS
    refine s_loadM S rfl .here T107 (v := (.map (some (bAt ch2.2.2.1 ((atE t2.2.2.1.2.1 (t2.1.getD 0)).2.2.2.1))))) rfl rfl ?_; clear S a; intro a S
    replace S := S.structClose (T := (YE110 ch2.2.2.1 ch2.2.2.2.1)) (e := atE t2.2.2.1.2.1 (t2.1.getD 0)) ((((), (), (), (ch3.1.2.2.2.1.1, ch3.1.2.2.2.1.2), (ch3.1.2.2.2.2.1, ch3.1.2.2.2.2.2)), ((), (), (), (ch3.2.1.2.2.2.1.1, ch3.2.1.2.2.2.1.2), (ch3.2.1.2.2.2.2.1, ch3.2.1.2.2.2.2.2)), (), (), (), (), ()) : ((YE110 ch2.2.2.1 ch2.2.2.2.1)).Ch) rfl .here
    replace S := S.famShut hl2 .here (.there (.there .here))
    replace hw := CL.again hw S (.cons (.there (.there (.there (.there (.there (.there (.there (.there .here)))))))) (.cons (.there (.there (.there (.there (.there (.there (.there (.there .here)))))))) (.cons (.there (.there (.there (.there (.there (.there (.there (.there .here)))))))) .nil))) le
    refine h_back ⟨fun _ => hw, ?_⟩
    refine h_alts ?_
    refine h_runO S rfl trivial ?_ ?_
    ·have hm1 := S.slotLt (u := 18) rfl
     replace S := S.slotMid (u := 18) rfl
     replace S := S.famOpen (i := ((atE t2.2.2.1.2.1 (t2.1.getD 0)).2.2.2.1)) hm1 (.there (.there (.there .here)))
     refine s_lookO S (z := [0, 0, 0, 0]) (k := x3) rfl .here () rfl (fun h => ⟨(), rfl, h⟩) Tryz.underlying107 KT43 Z43 ⟨rfl, trivial⟩ rfl ?_; clear S a; intro ch4 a S
     replace S := S.famShut hm1 .here (.there (.there (.there .here)))
     replace S := S.slotMidB (u := 18) hm1 rfl
     refine h_back ⟨fun h => (nomatch h), ?_⟩
     refine p_move S rfl rfl rfl trivial ?_; clear S a; intro a S
     refine p_extract S rfl rfl rfl rfl rfl trivial ?_; clear S a; intro a S
     refine p_extract S rfl rfl rfl rfl rfl trivial ?_; clear S a; intro a S
     refine h_run' S rfl trivial ?_
     refine s_alloc S Z43 rfl ⟨rfl, trivial⟩ rfl ?_; clear S a; intro g10 a w S
     refine h_back ⟨fun h => (nomatch h), ?_⟩
     refine h_run' S rfl trivial ?_
     refine s_store S rfl rfl rfl (s' := [.ints .u64 ((lk (aget (atE t2.2.2.1.2.2.1 ((atE t2.2.2.1.2.1 (t2.1.getD 0)).2.2.2.1)) x3) [0, 0, 0, 0]).1) 4]) .here T43 rfl rfl ?_; clear S; intro w S
     refine h_back ⟨fun h => (nomatch h), ?_⟩
     refine h_run' S rfl trivial ?_
     refine s_assign S rfl rfl ?_; clear S a; intro a S
     refine h_back ⟨fun h => (nomatch h), ?_⟩
     refine h_done ?_; clear CL hw le
     refine x_thenN ?_
     exact j1 _ ((lk (aget (atE t2.2.2.1.2.2.1 ((atE t2.2.2.1.2.1 (t2.1.getD 0)).2.2.2.1)) x3) [0, 0, 0, 0]).2) g10 g3 g2 g1 ch2.1 t2.2.2.1.1 ch2.2.1 ch2.2.2.1 ch2.2.2.2.1 t2.2.2.1.2.1 t2.2.2.1.2.2.1 t2.2.2.1.2.2.2 ch2.2.2.2.2.1 ch2.2.2.2.2.2.1 ch2.2.2.2.2.2.2.1 t2.2.2.2.2.1 ch2.2.2.2.2.2.2.2.1 ch2.2.2.2.2.2.2.2.2.1 ch2.2.2.2.2.2.2.2.2.2.1 t2.2.2.2.2.2.1 ch2.2.2.2.2.2.2.2.2.2.2.1 ch2.2.2.2.2.2.2.2.2.2.2.2.1 ch2.2.2.2.2.2.2.2.2.2.2.2.2 t2.2.2.2.2.2.2 ((lk (aget (atE t2.2.2.1.2.2.1 ((atE t2.2.2.1.2.1 (t2.1.getD 0)).2.2.2.1)) x3) [0, 0, 0, 0]).1) a w (S.sub (subR rfl) (.cons .here (.cons .here (.cons .here (.cons .here (.cons .here (.cons .here (.cons .here (.cons .here (.cons .here (.cons .here (.cons .here (.cons .here .nil))))))))))))) h2
    refine h_runO S rfl trivial ?_ ?_
    ·refine s_alloc S Z43 rfl ⟨rfl, trivial⟩ rfl ?_; clear S a; intro g10 a w S
     replace hw := CL.again hw S (.cons (.there (.there (.there (.there (.there (.there (.there (.there (.there .here))))))))) (.cons (.there (.there (.there (.there (.there (.there (.there (.there (.there .here))))))))) (.cons (.there (.there (.there (.there (.there (.there (.there (.there (.there .here))))))))) .nil))) le
     refine h_back ⟨fun _ => hw, ?_⟩
     refine h_run' S rfl trivial ?_
     have hm1 := S.slotLt (u := 18) rfl
     replace S := S.slotMid (u := 18) rfl
     replace S := S.famOpen (i := ((atE t2.2.2.1.2.1 (t2.1.getD 0)).2.2.2.1)) hm1 (.there (.there (.there (.there .here))))
     refine s_lookO S (z := [0, 0, 0, 0]) (k := x3) rfl .here () rfl (fun h => ⟨(), rfl, h⟩) Tryz.underlying107 KT43 Z43 ⟨rfl, trivial⟩ rfl ?_; clear S a; intro ch4 a S
     replace S := S.famShut hm1 .here (.there (.there (.there (.there .here))))
     replace S := S.slotMidB (u := 18) hm1 rfl
     refine h_back ⟨fun h => (nomatch h), ?_⟩
     refine p_move S rfl rfl rfl trivial ?_; clear S a; intro a S
     refine p_extract S rfl rfl rfl rfl rfl trivial ?_; clear S a; intro a S
     refine p_extract S rfl rfl rfl rfl rfl trivial ?_; clear S a; intro a S
     refine h_run' S rfl trivial ?_
     refine s_store S rfl rfl rfl (s' := [.ints .u64 ((lk (aget (atE t2.2.2.1.2.2.1 ((atE t2.2.2.1.2.1 (t2.1.getD 0)).2.2.2.1)) x3) [0, 0, 0, 0]).1) 4]) .here T43 rfl rfl ?_; clear S; intro w S
     refine h_back ⟨fun h => (nomatch h), ?_⟩
     refine h_run' S rfl trivial ?_
     refine s_assign S rfl rfl ?_; clear S a; intro a S
     refine h_back ⟨fun h => (nomatch h), ?_⟩
     refine h_done ?_; clear CL hw le
     refine x_thenN ?_
     exact j1 _ ((lk (aget (atE t2.2.2.1.2.2.1 ((atE t2.2.2.1.2.1 (t2.1.getD 0)).2.2.2.1)) x3) [0, 0, 0, 0]).2) g10 g3 g2 g1 ch2.1 t2.2.2.1.1 ch2.2.1 ch2.2.2.1 ch2.2.2.2.1 t2.2.2.1.2.1 t2.2.2.1.2.2.1 t2.2.2.1.2.2.2 ch2.2.2.2.2.1 ch2.2.2.2.2.2.1 ch2.2.2.2.2.2.2.1 t2.2.2.2.2.1 ch2.2.2.2.2.2.2.2.1 ch2.2.2.2.2.2.2.2.2.1 ch2.2.2.2.2.2.2.2.2.2.1 t2.2.2.2.2.2.1 ch2.2.2.2.2.2.2.2.2.2.2.1 ch2.2.2.2.2.2.2.2.2.2.2.2.1 ch2.2.2.2.2.2.2.2.2.2.2.2.2 t2.2.2.2.2.2.2 ((lk (aget (atE t2.2.2.1.2.2.1 ((atE t2.2.2.1.2.1 (t2.1.getD 0)).2.2.2.1)) x3) [0, 0, 0, 0]).1) a w (S.sub (subR rfl) (.cons .here (.cons .here (.cons .here (.cons .here (.cons .here (.cons .here (.cons .here (.cons .here (.cons .here (.cons .here (.cons .here (.cons .here .nil))))))))))))) h2
    exact h_nil
   refine h_runO S rfl trivial ?_ ?_
   ·refine s_alloc S Z43 rfl ⟨rfl, trivial⟩ rfl ?_; clear S a; intro g10 a w S
    replace hw := CL.again hw S (.cons (.there (.there (.there (.there (.there (.there (.there (.there (.there .here))))))))) (.cons (.there (.there (.there (.there (.there (.there (.there (.there (.there .here))))))))) (.cons (.there (.there (.there (.there (.there (.there (.there (.there (.there .here))))))))) .nil))) le
    refine h_back ⟨fun _ => hw, ?_⟩
    refine h_run' S rfl trivial ?_
    replace S := S.famOpen (i := (t2.1.getD 0)) hl2 (.there (.there (.there .here)))
    have hS := S.structOpen (T := (YE110 ch2.2.2.1 ch2.2.2.2.1)) (fun _ => .here) (((), (), (), (none, 0), (none, 0)), ((), (), (), (none, 0), (none, 0)), (), (), (), (), ())
    clear S; obtain ⟨ch3, S⟩ := hS
    refine s_loadM S rfl .here T107 (v := (.map (some (bAt ch2.2.2.1 ((atE t2.2.2.1.2.1 (t2.1.getD 0)).2.2.2.1))))) rfl rfl ?_; clear S a; intro a S
    replace S := S.structClose (T := (YE110 ch2.2.2.1 ch2.2.2.2.1)) (e := atE t2.2.2.1.2.1 (t2.1.getD 0)) ((((), (), (), (ch3.1.2.2.2.1.1, ch3.1.2.2.2.1.2), (ch3.1.2.2.2.2.1, ch3.1.2.2.2.2.2)), ((), (), (), (ch3.2.1.2.2.2.1.1, ch3.2.1.2.2.2.1.2), (ch3.2.1.2.2.2.2.1, ch3.2.1.2.2.2.2.2)), (), (), (), (), ()) : ((YE110 ch2.2.2.1 ch2.2.2.2.1)).Ch) rfl .here
    replace S := S.famShut hl2 .here (.there (.there (.there .here)))
    replace hw := CL.again hw S (.cons (.there (.there (.there (.there (.there (.there (.there (.there (.there .here))))))))) (.cons (.there (.there (.there (.there (.there (.there (.there (.there (.there .here))))))))) (.cons (.there (.there (.there (.there (.there (.there (.there (.there (.there .here))))))))) .nil))) le
    refine h_back ⟨fun _ => hw, ?_⟩
    refine h_run' S rfl trivial ?_
    have hm1 := S.slotLt (u := 18) rfl
    replace S := S.slotMid (u := 18) rfl
    replace S := S.famOpen (i := ((atE t2.2.2.1.2.1 (t2.1.getD 0)).2.2.2.1)) hm1 (.there (.there (.there (.there .here))))
    refine s_lookO S (z := [0, 0, 0, 0]) (k := x3) rfl .here () rfl (fun h => ⟨(), rfl, h⟩) Tryz.underlying107 KT43 Z43 ⟨rfl, trivial⟩ rfl ?_; clear S a; intro ch4 a S
    replace S := S.famShut hm1 .here (.there (.there (.there (.there .here))))
    replace S := S.slotMidB (u := 18) hm1 rfl
    refine h_back ⟨fun h => (nomatch h), ?_⟩
    refine p_move S rfl rfl rfl trivial ?_; clear S a; intro a S
    refine p_extract S rfl rfl rfl rfl rfl trivial ?_; clear S a; intro a S
    refine p_extract S rfl rfl rfl rfl rfl trivial ?_; clear S a; intro a S
    refine h_run' S rfl trivial ?_
    refine s_store S rfl rfl rfl (s' := [.ints .u64 ((lk (aget (atE t2.2.2.1.2.2.1 ((atE t2.2.2.1.2.1 (t2.1.getD 0)).2.2.2.1)) x3) [0, 0, 0, 0]).1) 4]) .here T43 rfl rfl ?_; clear S; intro w S
    refine h_back ⟨fun h => (nomatch h), ?_⟩
    refine h_run' S rfl trivial ?_
    refine s_assign S rfl rfl ?_; clear S a; intro a S
    refine h_back ⟨fun h => (nomatch h), ?_⟩
    refine h_done ?_; clear CL hw le
    refine x_thenN ?_
    exact j1 _ ((lk (aget (atE t2.2.2.1.2.2.1 ((atE t2.2.2.1.2.1 (t2.1.getD 0)).2.2.2.1)) x3) [0, 0, 0, 0]).2) g10 g3 g2 g1 ch2.1 t2.2.2.1.1 ch2.2.1 ch2.2.2.1 ch2.2.2.2.1 t2.2.2.1.2.1 t2.2.2.1.2.2.1 t2.2.2.1.2.2.2 ch2.2.2.2.2.1 ch2.2.2.2.2.2.1 ch2.2.2.2.2.2.2.1 t2.2.2.2.2.1 ch2.2.2.2.2.2.2.2.1 ch2.2.2.2.2.2.2.2.2.1 ch2.2.2.2.2.2.2.2.2.2.1 t2.2.2.2.2.2.1 ch2.2.2.2.2.2.2.2.2.2.2.1 ch2.2.2.2.2.2.2.2.2.2.2.2.1 ch2.2.2.2.2.2.2.2.2.2.2.2.2 t2.2.2.2.2.2.2 ((lk (aget (atE t2.2.2.1.2.2.1 ((atE t2.2.2.1.2.1 (t2.1.getD 0)).2.2.2.1)) x3) [0, 0, 0, 0]).1) a w (S.sub (subR rfl) (.cons .here (.cons .here (.cons .here (.cons .here (.cons .here (.cons .here (.cons .here (.cons .here (.cons .here (.cons .here (.cons .here (.cons .here .nil))))))))))))) h2
   exact h_nil
  refine h_runO S rfl trivial ?_ ?_
  ·refine s_alloc S Z43 rfl ⟨rfl, trivial⟩ rfl ?_; clear S a; intro g10 a w S
   replace hw := CL.again hw S (.cons (.there (.there (.there (.there (.there (.there (.there (.there (.there .here))))))))) (.cons (.there (.there (.there (.there (.there (.there (.there (.there (.there .here))))))))) (.cons (.there (.there (.there (.there (.there (.there (.there (.there (.there .here))))))))) .nil))) le
   refine h_back ⟨fun _ => hw, ?_⟩
   refine h_run' S rfl trivial ?_
   have hl2 := S.slotPlt (u := 15) c2 rfl
   replace S := S.slotP (u := 15) c2 rfl
   refine s_nilchk S rfl rfl ?_; clear S a; intro a S
   replace hw := CL.again hw S (.cons (.there (.there (.there (.there (.there (.there (.there (.there (.there .here))))))))) (.cons (.there (.there (.there (.there (.there (.there (.there (.there (.there .here))))))))) (.cons (.there (.there (.there (.there (.there (.there (.there (.there (.there .here))))))))) .nil))) le
   refine h_back ⟨fun _ => hw, ?_⟩
   replace CL := CL.add (t := 16) (d := (.v (.pointer (some ⟨(bAt ch2.2.1 (t2.1.getD 0)), 0, none⟩)))) S rfl rfl
   refine h_fieldAddr S CL hw le (subR rfl) rfl I110_3 T107 (by decide) rfl rfl rfl trivial ?_; clear S CL a; intro a S CL
   refine h_run' S rfl trivial ?_
   replace S := S.famOpen (i := (t2.1.getD 0)) hl2 (.there (.there (.there .here)))
   have hS := S.structOpen (T := (YE110 ch2.2.2.1 ch2.2.2.2.1)) (fun _ => .here) (((), (), (), (none, 0), (none, 0)), ((), (), (), (none, 0), (none, 0)), (), (), (), (), ())
   clear S; obtain ⟨ch3, S⟩ := hS
   refine s_loadM S rfl .here T107 (v := (.map (some (bAt ch2.2.2.1 ((atE t2.2.2.1.2.1 (t2.1.getD 0)).2.2.2.1))))) rfl rfl ?_; clear S a; intro a S
   replace S := S.structClose (T := (YE110 ch2.2.2.1 ch2.2.2.2.1)) (e := atE t2.2.2.1.2.1 (t2.1.getD 0)) ((((), (), (), (ch3.1.2.2.2.1.1, ch3.1.2.2.2.1.2), (ch3.1.2.2.2.2.1, ch3.1.2.2.2.2.2)), ((), (), (), (ch3.2.1.2.2.2.1.1, ch3.2.1.2.2.2.1.2), (ch3.2.1.2.2.2.2.1, ch3.2.1.2.2.2.2.2)), (), (), (), (), ()) : ((YE110 ch2.2.2.1 ch2.2.2.2.1)).Ch) rfl .here
   replace S := S.famShut hl2 .here (.there (.there (.there .here)))
   replace hw := CL.again hw S (.cons (.there (.there (.there (.there (.there (.there (.there (.there (.there .here))))))))) (.cons (.there (.there (.there (.there (.there (.there (.there (.there (.there .here))))))))) (.cons (.there (.there (.there (.there (.there (.there (.there (.there (.there .here))))))))) .nil))) le
   refine h_back ⟨fun _ => hw, ?_⟩
   refine h_run' S rfl trivial ?_
   have hm1 := S.slotLt (u := 18) rfl
   replace S := S.slotMid (u := 18) rfl
   replace S := S.famOpen (i := ((atE t2.2.2.1.2.1 (t2.1.getD 0)).2.2.2.1)) hm1 (.there (.there (.there (.there .here))))
   refine s_lookO S (z := [0, 0, 0, 0]) (k := x3) rfl .here () rfl (fun h => ⟨(), rfl, h⟩) Tryz.underlying107 KT43 Z43 ⟨rfl, trivial⟩ rfl ?_; clear S a; intro ch4 a S
   replace S := S.famShut hm1 .here (.there (.there (.there (.there .here))))
   replace S := S.slotMidB (u := 18) hm1 rfl
   refine h_back ⟨fun h => (nomatch h), ?_⟩
   refine p_move S rfl rfl rfl trivial ?_; clear S a; intro a S
   refine p_extract S rfl rfl rfl rfl rfl trivial ?_; clear S a; intro a S
   refine p_extract S rfl rfl rfl rfl rfl trivial ?_; clear S a; intro a S
   refine h_run' S rfl trivial ?_
   refine s_store S rfl rfl rfl (s' := [.ints .u64 ((lk (aget (atE t2.2.2.1.2.2.1 ((atE t2.2.2.1.2.1 (t2.1.getD 0)).2.2.2.1)) x3) [0, 0, 0, 0]).1) 4]) .here T43 rfl rfl ?_; clear S; intro w S
   refine h_back ⟨fun h => (nomatch h), ?_⟩
   refine h_run' S rfl trivial ?_
   refine s_assign S rfl rfl ?_; clear S a; intro a S
   refine h_back ⟨fun h => (nomatch h), ?_⟩
   refine h_done ?_; clear CL hw le
   refine x_thenN ?_
   exact j1 _ ((lk (aget (atE t2.2.2.1.2.2.1 ((atE t2.2.2.1.2.1 (t2.1.getD 0)).2.2.2.1)) x3) [0, 0, 0, 0]).2) g10 g3 g2 g1 ch2.1 t2.2.2.1.1 ch2.2.1 ch2.2.2.1 ch2.2.2.2.1 t2.2.2.1.2.1 t2.2.2.1.2.2.1 t2.2.2.1.2.2.2 ch2.2.2.2.2.1 ch2.2.2.2.2.2.1 ch2.2.2.2.2.2.2.1 t2.2.2.2.2.1 ch2.2.2.2.2.2.2.2.1 ch2.2.2.2.2.2.2.2.2.1 ch2.2.2.2.2.2.2.2.2.2.1 t2.2.2.2.2.2.1 ch2.2.2.2.2.2.2.2.2.2.2.1 ch2.2.2.2.2.2.2.2.2.2.2.2.1 ch2.2.2.2.2.2.2.2.2.2.2.2.2 t2.2.2.2.2.2.2 ((lk (aget (atE t2.2.2.1.2.2.1 ((atE t2.2.2.1.2.1 (t2.1.getD 0)).2.2.2.1)) x3) [0, 0, 0, 0]).1) a w (S.sub (subR rfl) (.cons .here (.cons .here (.cons .here (.cons .here (.cons .here (.cons .here (.cons .here (.cons .here (.cons .here (.cons .here (.cons .here (.cons .here .nil))))))))))))) h2
  exact h_nil
 refine h_runO S rfl trivial ?_ ?_
 ·refine s_alloc S Z43 rfl ⟨rfl, trivial⟩ rfl ?_; clear S a; intro g10 a w S
  replace hw := CL.again hw S (.cons (.there .here) (.cons (.there .here) (.cons (.there .here) .nil))) le
  refine h_back ⟨fun _ => hw, ?_⟩
  refine h_run' S rfl trivial ?_
  refine s_callX S (ds' := [(.v (.pointer (some ⟨ch_0_0, 0, none⟩))), (.agg [.ints .u8 x2 20])]) (ds := [(.v (.pointer (some ⟨ch_0_0, 0, none⟩))), (.agg [.ints .u8 x2 20])]) [Res.cells ch_0_0 79 [.rf (.iface 75 (.agg (cellsOf [.sl ch_0_1 (x1.1).length ch_0_2 (RdS Y71 ch_0_1 x1.1)]).toArray)) (IfR [.sl ch_0_1 (x1.1).length ch_0_2 (RdS Y71 ch_0_1 x1.1)]), .one (.map (some ch_0_3)), .one (.int .i64 x1.2.2.1), .one (.slice ch_0_7 ch_0_8 ch_0_9), .one (.slice ch_0_10 ch_0_11 ch_0_12), .one (.slice ch_0_13 ch_0_14 ch_0_15)], Res.map true (Ty.arr .u8 20) false (Ty.pid ch_0_4) ch_0_3 x1.2.1.1, Res.fam (Res.struct (YE110 ch_0_5 ch_0_6) 110) (one_struct _ _) ch_0_4 [] x1.2.1.2.1, Res.fam (fun g_ kvs_ => Res.map true (Ty.arr .u64 4) true (Ty.arr .u64 4) g_ kvs_) (one_map true (Ty.arr .u64 4) true (Ty.arr .u64 4)) ch_0_5 [] x1.2.1.2.2.1, Res.fam (fun g_ kvs_ => Res.map true (Ty.arr .u64 4) false Ty.bool g_ kvs_) (one_map true (Ty.arr .u64 4) false Ty.bool) ch_0_6 [] x1.2.1.2.2.2, Res.row Y100 100 ch_0_7 ch_0_8 ch_0_9 x1.2.2.2.1, Res.row (YC ch_0_0 ch_0_4 ch_0_5 ch_0_6) 1 ch_0_10 ch_0_11 ch_0_12 x1.2.2.2.2.1, Res.row (Ty.arr .u8 20) 40 ch_0_13 ch_0_14 ch_0_15 x1.2.2.2.2.2] [Res.cells g10 43 [.ints .u64 [0, 0, 0, 0] 4], Res.cells g3 43 [.ints .u64 [0, 0, 0, 0] 4], Res.cells g2 43 [.ints .u64 x3 4], Res.cells g1 40 [.ints .u8 x2 20]] (fun (ch : W6) => ((.rf (ptrV ch.2.1 t2.1) (ptrR ch.2.1 t2.1)) : D)) (fun (ch : W6) => [Res.cells ch_0_0 79 [.rf (.iface 75 (.agg (cellsOf [.sl ch_0_1 (x1.1).length ch_0_2 (RdS Y71 ch_0_1 x1.1)]).toArray)) (IfR [.sl ch_0_1 (x1.1).length ch_0_2 (RdS Y71 ch_0_1 x1.1)]), .one (.map (some ch.1)), .one (.int .i64 x1.2.2.1), .one (.slice ch.2.2.2.2.1 ch.2.2.2.2.2.1 ch.2.2.2.2.2.2.1), .one (.slice ch.2.2.2.2.2.2.2.1 ch.2.2.2.2.2.2.2.2.1 ch.2.2.2.2.2.2.2.2.2.1), .one (.slice ch.2.2.2.2.2.2.2.2.2.2.1 ch.2.2.2.2.2.2.2.2.2.2.2.1 ch.2.2.2.2.2.2.2.2.2.2.2.2)], Res.map true (Ty.arr .u8 20) false (Ty.pid ch.2.1) ch.1 t2.2.2.1.1, Res.fam (Res.struct (YE110 ch.2.2.1 ch.2.2.2.1) 110) (one_struct _ _) ch.2.1 [] t2.2.2.1.2.1, Res.fam (fun g_ kvs_ => Res.map true (Ty.arr .u64 4) true (Ty.arr .u64 4) g_ kvs_) (one_map true (Ty.arr .u64 4) true (Ty.arr .u64 4)) ch.2.2.1 [] t2.2.2.1.2.2.1, Res.fam (fun g_ kvs_ => Res.map true (Ty.arr .u64 4) false Ty.bool g_ kvs_) (one_map true (Ty.arr .u64 4) false Ty.bool) ch.2.2.2.1 [] t2.2.2.1.2.2.2, Res.row Y100 100 ch.2.2.2.2.1 ch.2.2.2.2.2.1 ch.2.2.2.2.2.2.1 t2.2.2.2.2.1, Res.row (YC ch_0_0 ch.2.1 ch.2.2.1 ch.2.2.2.1) 1 ch.2.2.2.2.2.2.2.1 ch.2.2.2.2.2.2.2.2.1 ch.2.2.2.2.2.2.2.2.2.1 t2.2.2.2.2.2.1, Res.row (Ty.arr .u8 20) 40 ch.2.2.2.2.2.2.2.2.2.2.1 ch.2.2.2.2.2.2.2.2.2.2.2.1 ch.2.2.2.2.2.2.2.2.2.2.2.2 t2.2.2.2.2.2.2]) (fun (ch : W6) => [Res.cells ch_0_0 79 [.rf (.iface 75 (.agg (cellsOf [.sl ch_0_1 (x1.1).length ch_0_2 (RdS Y71 ch_0_1 x1.1)]).toArray)) (IfR [.sl ch_0_1 (x1.1).length ch_0_2 (RdS Y71 ch_0_1 x1.1)]), .one (.map (some ch.1)), .one (.int .i64 x1.2.2.1), .one (.slice ch.2.2.2.2.1 ch.2.2.2.2.2.1 ch.2.2.2.2.2.2.1), .one (.slice ch.2.2.2.2.2.2.2.1 ch.2.2.2.2.2.2.2.2.1 ch.2.2.2.2.2.2.2.2.2.1), .one (.slice ch.2.2.2.2.2.2.2.2.2.2.1 ch.2.2.2.2.2.2.2.2.2.2.2.1 ch.2.2.2.2.2.2.2.2.2.2.2.2)], Res.map true (Ty.arr .u8 20) false (Ty.pid ch.2.1) ch.1 t2.2.2.1.1, Res.fam (Res.struct (YE110 ch.2.2.1 ch.2.2.2.1) 110) (one_struct _ _) ch.2.1 [] t2.2.2.1.2.1, Res.fam (fun g_ kvs_ => Res.map true (Ty.arr .u64 4) true (Ty.arr .u64 4) g_ kvs_) (one_map true (Ty.arr .u64 4) true (Ty.arr .u64 4)) ch.2.2.1 [] t2.2.2.1.2.2.1, Res.fam (fun g_ kvs_ => Res.map true (Ty.arr .u64 4) false Ty.bool g_ kvs_) (one_map true (Ty.arr .u64 4) false Ty.bool) ch.2.2.2.1 [] t2.2.2.1.2.2.2, Res.row Y100 100 ch.2.2.2.2.1 ch.2.2.2.2.2.1 ch.2.2.2.2.2.2.1 t2.2.2.2.2.1, Res.row (YC ch_0_0 ch.2.1 ch.2.2.1 ch.2.2.2.1) 1 ch.2.2.2.2.2.2.2.1 ch.2.2.2.2.2.2.2.2.1 ch.2.2.2.2.2.2.2.2.2.1 t2.2.2.2.2.2.1, Res.row (Ty.arr .u8 20) 40 ch.2.2.2.2.2.2.2.2.2.2.1 ch.2.2.2.2.2.2.2.2.2.2.2.1 ch.2.2.2.2.2.2.2.2.2.2.2.2 t2.2.2.2.2.2.2, Res.cells g10 43 [.ints .u64 [0, 0, 0, 0] 4], Res.cells g3 43 [.ints .u64 [0, 0, 0, 0] 4], Res.cells g2 43 [.ints .u64 x3 4], Res.cells g1 40 [.ints .u8 x2 20]]) (fun _ => rfl) N56 rfl rfl (fun ok => ok) (.cons (.there (.there (.there (.there .here)))) (.cons (.there (.there (.there (.there .here)))) (.cons (.there (.there (.there (.there .here)))) (.cons (.there (.there (.there (.there .here)))) (.cons (.there (.there (.there (.there .here)))) (.cons (.there (.there (.there (.there .here)))) (.cons (.there (.there (.there (.there .here)))) (.cons (.there (.there (.there (.there .here)))) (.cons .here (.cons .here (.cons .here (.cons .here .nil)))))))))))) rfl (state_State_at.ok k ((x1.1), x1.2.1, x1.2.2.1, x1.2.2.2.1, x1.2.2.2.2.1, x1.2.2.2.2.2) x2 ch_0_0 ch_0_1 ch_0_2 ch_0_3 ch_0_4 ch_0_5 ch_0_6 ch_0_7 ch_0_8 ch_0_9 ch_0_10 ch_0_11 ch_0_12 ch_0_13 ch_0_14 ch_0_15 t2 et2 _ _) ?_; clear S a; intro ch2 m le1 a w S
  replace le := le.trans le1
  replace hw := CL.again hw S (.cons (.there (.there (.there (.there (.there (.there (.there (.there (.there .here))))))))) (.cons (.there (.there (.there (.there (.there (.there (.there (.there (.there .here))))))))) (.cons (.there (.there (.there (.there (.there (.there (.there (.there (.there .here))))))))) .nil))) le
  refine h_back ⟨fun _ => hw, ?_⟩
  refine h_run' S rfl trivial ?_
  have hl2 := S.slotPlt (u := 15) c2 rfl
  replace S := S.slotP (u := 15) c2 rfl
  refine s_nilchk S rfl rfl ?_; clear S a; intro a S
  replace hw := CL.again hw S (.cons (.there (.there (.there (.there (.there (.there (.there (.there (.there .here))))))))) (.cons (.there (.there (.there (.there (.there (.there (.there (.there (.there .here))))))))) (.cons (.there (.there (.there (.there (.there (.there (.there (.there (.there .here))))))))) .nil))) le
  refine h_back ⟨fun _ => hw, ?_⟩
  replace CL := CL.add (t := 16) (d := (.v (.pointer (some ⟨(bAt ch2.2.1 (t2.1.getD 0)), 0, none⟩)))) S rfl rfl
  refine h_fieldAddr S CL hw le (subR rfl) rfl I110_3 T107 (by decide) rfl rfl rfl trivial ?_; clear S CL a; intro a S CL
  refine h_run' S rfl trivial ?_
  replace S := S.famOpen (i := (t2.1.getD 0)) hl2 (.there (.there .here))
  have hS := S.structOpen (T := (YE110 ch2.2.2.1 ch2.2.2.2.1)) (fun _ => .here) (((), (), (), (none, 0), (none, 0)), ((), (), (), (none, 0), (none, 0)), (), (), (), (), ())
  clear S; obtain ⟨ch3, S⟩ := hS
  refine s_loadM S rfl .here T107 (v := (.map (some (bAt ch2.2.2.1 ((atE t2.2.2.1.2.1 (t2.1.getD 0)).2.2.2.1))))) rfl rfl ?_; clear S a; intro a S
  replace S := S.structClose (T := (YE110 ch2.2.2.1 ch2.2.2.2.1)) (e := atE t2.2.2.1.2.1 (t2.1.getD 0)) ((((), (), (), (ch3.1.2.2.2.1.1, ch3.1.2.2.2.1.2), (ch3.1.2.2.2.2.1, ch3.1.2.2.2.2.2)), ((), (), (), (ch3.2.1.2.2.2.1.1, ch3.2.1.2.2.2.1.2), (ch3.2.1.2.2.2.2.1, ch3.2.1.2.2.2.2.2)), (), (), (), (), ()) : ((YE110 ch2.2.2.1 ch2.2.2.2.1)).Ch) rfl .here
  replace S := S.famShut hl2 .here (.there (.there .here))
  replace hw := CL.again hw S (.cons (.there (.there (.there (.there (.there (.there (.there (.there (.there .here))))))))) (.cons (.there (.there (.there (.there (.there (.there (.there (.there (.there .here))))))))) (.cons (.there (.there (.there (.there (.there (.there (.there (.there (.there .here))))))))) .nil))) le
  refine h_back ⟨fun _ => hw, ?_⟩
  refine h_run' S rfl trivial ?_
  have hm1 := S.slotLt (u := 18) rfl
  replace S := S.slotMid (u := 18) rfl
  replace S := S.famOpen (i := ((atE t2.2.2.1.2.1 (t2.1.getD 0)).2.2.2.1)) hm1 (.there (.there (.there .here)))
  refine s_lookO S (z := [0, 0, 0, 0]) (k := x3) rfl .here () rfl (fun h => ⟨(), rfl, h⟩) Tryz.underlying107 KT43 Z43 ⟨rfl, trivial⟩ rfl ?_; clear S a; intro ch4 a S
  replace S := S.famShut hm1 .here (.there (.there (.there .here)))
  replace S := S.slotMidB (u := 18) hm1 rfl
  refine h_back ⟨fun h => (nomatch h), ?_⟩
  refine p_move S rfl rfl rfl trivial ?_; clear S a; intro a S
  refine p_extract S rfl rfl rfl rfl rfl trivial ?_; clear S a; intro a S
  refine p_extract S rfl rfl rfl rfl rfl trivial ?_; clear S a; intro a S
  refine h_run' S rfl trivial ?_
  refine s_store S rfl rfl rfl (s' := [.ints .u64 ((lk (aget (atE t2.2.2.1.2.2.1 ((atE t2.2.2.1.2.1 (t2.1.getD 0)).2.2.2.1)) x3) [0, 0, 0, 0]).1) 4]) (.there (.there (.there (.there (.there (.there (.there (.there .here)))))))) T43 rfl rfl ?_; clear S; intro w S
  refine h_back ⟨fun h => (nomatch h), ?_⟩
  refine h_run' S rfl trivial ?_
  refine s_assign S rfl rfl ?_; clear S a; intro a S
  refine h_back ⟨fun h => (nomatch h), ?_⟩
  refine h_done ?_; clear CL hw le
  refine x_thenN ?_
  exact j1 _ ((lk (aget (atE t2.2.2.1.2.2.1 ((atE t2.2.2.1.2.1 (t2.1.getD 0)).2.2.2.1)) x3) [0, 0, 0, 0]).2) g10 g3 g2 g1 ch2.1 t2.2.2.1.1 ch2.2.1 ch2.2.2.1 ch2.2.2.2.1 t2.2.2.1.2.1 t2.2.2.1.2.2.1 t2.2.2.1.2.2.2 ch2.2.2.2.2.1 ch2.2.2.2.2.2.1 ch2.2.2.2.2.2.2.1 t2.2.2.2.2.1 ch2.2.2.2.2.2.2.2.1 ch2.2.2.2.2.2.2.2.2.1 ch2.2.2.2.2.2.2.2.2.2.1 t2.2.2.2.2.2.1 ch2.2.2.2.2.2.2.2.2.2.2.1 ch2.2.2.2.2.2.2.2.2.2.2.2.1 ch2.2.2.2.2.2.2.2.2.2.2.2.2 t2.2.2.2.2.2.2 ((lk (aget (atE t2.2.2.1.2.2.1 ((atE t2.2.2.1.2.1 (t2.1.getD 0)).2.2.2.1)) x3) [0, 0, 0, 0]).1) a w (S.sub (subR rfl) (.cons (.there (.there (.there (.there (.there (.there (.there (.there .here)))))))) (.cons .here (.cons .here (.cons .here (.cons .here (.cons .here (.cons .here (.cons .here (.cons .here (.cons .here (.cons .here (.cons .here .nil))))))))))))) h2
 exact h_nil
abbrev smithylaw14_fixed.Ty : Type := Option Bool
def smithylaw14_fixed.Ctr (s : smithylaw14_fixed.Ty) : Prop := ∀ (r : Bool) (h0 : s = some r) (mi : Mem) (w0 : World), okL mi [] → Pre mi [] w0 → Calls Tryz.prog 8 (([] : List D).map D.val).toArray w0 (RetX mi [] (fun (ch : Unit) => ((.v (.bool r)) : D)) (fun (ch : Unit) => []) w0)
def smithylaw14_fixed.f (k : Nat) : Option Bool := (state_New_0nil.f).bind fun t1 => ((state_State_Set.f k ((t1.1), t1.2.1, t1.2.2.1, t1.2.2.2.1, t1.2.2.2.2.1, t1.2.2.2.2.2) [1, 0, 0, 0, 0, 0, 0, 0, 0, 0, 0, 0, 0, 0, 0, 0, 0, 0, 0, 0] [1, 0, 0, 0] [5, 0, 0, 0]).bind fun t2 => ((state_State_Mark.f ((t1.1), t2.2.1, t1.2.2.1, t2.2.2.2.1, t2.2.2.2.2.1, t2.2.2.2.2.2)).bind fun t3 => ((state_State_Set.f k ((t1.1), t2.2.1, t1.2.2.1, t2.2.2.2.1, t2.2.2.2.2.1, t2.2.2.2.2.2) [1, 0, 0, 0, 0, 0, 0, 0, 0, 0, 0, 0, 0, 0, 0, 0, 0, 0, 0, 0] [1, 0, 0, 0] [7, 0, 0, 0]).bind fun t4 => ((state_State_Back.f k ((t1.1), t4.2.1, t1.2.2.1, t4.2.2.2.1, t4.2.2.2.2.1, t4.2.2.2.2.2) t3).bind fun t5 => ((state_State_Load.f k ((t5.1), t5.2.1, t5.2.2.1, t5.2.2.2.1, t5.2.2.2.2.1, t5.2.2.2.2.2) [1, 0, 0, 0, 0, 0, 0, 0, 0, 0, 0, 0, 0, 0, 0, 0, 0, 0, 0, 0] [1, 0, 0, 0]).bind fun t6 => (some (decide (t6.1 = [5, 0, 0, 0]))))))))
theorem smithylaw14_fixed.ok (k : Nat) : smithylaw14_fixed.Ctr (smithylaw14_fixed.f k) := by
 intro r h0 mi w0 ok hm
 delta smithylaw14_fixed.f at h0
 refine c_enterX (n := 27) [] (l := []) Tryz.func8 rfl rfl rfl rfl ok hm ?_
 clear ok hm
 intro b0 hb a S
 refine c_region ?_
 refine s_assign S rfl rfl ?_; clear S a; intro a S
 refine c_end ?_
 refine c_region ?_
 obtain ⟨t1, et1, h1⟩ := bind_of h0; clear h0
 refine s_callX S (ds' := [(.v .nilIface)]) (ds := [(.v .nilIface)]) [] [] (fun (ch : W2) => ((.v (.pointer (some ⟨ch.1, 0, none⟩))) : D)) (fun (ch : W2) => [Res.cells ch.1 79 [.rf (.iface 75 (.agg (cellsOf [.sl ch.2.1 (t1.1).length ch.2.2.1 (RdS Y71 ch.2.1 t1.1)]).toArray)) (IfR [.sl ch.2.1 (t1.1).length ch.2.2.1 (RdS Y71 ch.2.1 t1.1)]), .one (.map (some ch.2.2.2.1)), .one (.int .i64 t1.2.2.1), .one (.slice ch.2.2.2.2.2.2.2.1 ch.2.2.2.2.2.2.2.2.1 ch.2.2.2.2.2.2.2.2.2.1), .one (.slice ch.2.2.2.2.2.2.2.2.2.2.1 ch.2.2.2.2.2.2.2.2.2.2.2.1 ch.2.2.2.2.2.2.2.2.2.2.2.2.1), .one (.slice ch.2.2.2.2.2.2.2.2.2.2.2.2.2.1 ch.2.2.2.2.2.2.2.2.2.2.2.2.2.2.1 ch.2.2.2.2.2.2.2.2.2.2.2.2.2.2.2)], Res.map true (Ty.arr .u8 20) false (Ty.pid ch.2.2.2.2.1) ch.2.2.2.1 t1.2.1.1, Res.fam (Res.struct (YE110 ch.2.2.2.2.2.1 ch.2.2.2.2.2.2.1) 110) (one_struct _ _) ch.2.2.2.2.1 [] t1.2.1.2.1, Res.fam (fun g_ kvs_ => Res.map true (Ty.arr .u64 4) true (Ty.arr .u64 4) g_ kvs_) (one_map true (Ty.arr .u64 4) true (Ty.arr .u64 4)) ch.2.2.2.2.2.1 [] t1.2.1.2.2.1, Res.fam (fun g_ kvs_ => Res.map true (Ty.arr .u64 4) false Ty.bool g_ kvs_) (one_map true (Ty.arr .u64 4) false Ty.bool) ch.2.2.2.2.2.2.1 [] t1.2.1.2.2.2, Res.row Y100 100 ch.2.2.2.2.2.2.2.1 ch.2.2.2.2.2.2.2.2.1 ch.2.2.2.2.2.2.2.2.2.1 t1.2.2.2.1, Res.row (YC ch.1 ch.2.2.2.2.1 ch.2.2.2.2.2.1 ch.2.2.2.2.2.2.1) 1 ch.2.2.2.2.2.2.2.2.2.2.1 ch.2.2.2.2.2.2.2.2.2.2.2.1 ch.2.2.2.2.2.2.2.2.2.2.2.2.1 t1.2.2.2.2.1, Res.row (Ty.arr .u8 20) 40 ch.2.2.2.2.2.2.2.2.2.2.2.2.2.1 ch.2.2.2.2.2.2.2.2.2.2.2.2.2.2.1 ch.2.2.2.2.2.2.2.2.2.2.2.2.2.2.2 t1.2.2.2.2.2]) (fun (ch : W2) => [Res.cells ch.1 79 [.rf (.iface 75 (.agg (cellsOf [.sl ch.2.1 (t1.1).length ch.2.2.1 (RdS Y71 ch.2.1 t1.1)]).toArray)) (IfR [.sl ch.2.1 (t1.1).length ch.2.2.1 (RdS Y71 ch.2.1 t1.1)]), .one (.map (some ch.2.2.2.1)), .one (.int .i64 t1.2.2.1), .one (.slice ch.2.2.2.2.2.2.2.1 ch.2.2.2.2.2.2.2.2.1 ch.2.2.2.2.2.2.2.2.2.1), .one (.slice ch.2.2.2.2.2.2.2.2.2.2.1 ch.2.2.2.2.2.2.2.2.2.2.2.1 ch.2.2.2.2.2.2.2.2.2.2.2.2.1), .one (.slice ch.2.2.2.2.2.2.2.2.2.2.2.2.2.1 ch.2.2.2.2.2.2.2.2.2.2.2.2.2.2.1 ch.2.2.2.2.2.2.2.2.2.2.2.2.2.2.2)], Res.map true (Ty.arr .u8 20) false (Ty.pid ch.2.2.2.2.1) ch.2.2.2.1 t1.2.1.1, Res.fam (Res.struct (YE110 ch.2.2.2.2.2.1 ch.2.2.2.2.2.2.1) 110) (one_struct _ _) ch.2.2.2.2.1 [] t1.2.1.2.1, Res.fam (fun g_ kvs_ => Res.map true (Ty.arr .u64 4) true (Ty.arr .u64 4) g_ kvs_) (one_map true (Ty.arr .u64 4) true (Ty.arr .u64 4)) ch.2.2.2.2.2.1 [] t1.2.1.2.2.1, Res.fam (fun g_ kvs_ => Res.map true (Ty.arr .u64 4) false Ty.bool g_ kvs_) (one_map true (Ty.arr .u64 4) false Ty.bool) ch.2.2.2.2.2.2.1 [] t1.2.1.2.2.2, Res.row Y100 100 ch.2.2.2.2.2.2.2.1 ch.2.2.2.2.2.2.2.2.1 ch.2.2.2.2.2.2.2.2.2.1 t1.2.2.2.1, Res.row (YC ch.1 ch.2.2.2.2.1 ch.2.2.2.2.2.1 ch.2.2.2.2.2.2.1) 1 ch.2.2.2.2.2.2.2.2.2.2.1 ch.2.2.2.2.2.2.2.2.2.2.2.1 ch.2.2.2.2.2.2.2.2.2.2.2.2.1 t1.2.2.2.2.1, Res.row (Ty.arr .u8 20) 40 ch.2.2.2.2.2.2.2.2.2.2.2.2.2.1 ch.2.2.2.2.2.2.2.2.2.2.2.2.2.2.1 ch.2.2.2.2.2.2.2.2.2.2.2.2.2.2.2 t1.2.2.2.2.2]) (fun _ => rfl) N9 rfl rfl (fun ok => ok) .nil rfl (state_New_0nil.ok t1 et1 _ _) ?_; clear S a; intro ch1 m le1 a w S
 refine s_assign S rfl rfl ?_; clear S a; intro a S
 refine c_end ?_
 refine wp_seq ?_
 refine c_region ?_
 refine s_move S rfl rfl ?_; clear S a; intro a S
 refine s_eqp S (b := false) rfl rfl Tryz.underlying26 rfl rfl ?_; clear S a; intro a S
 refine c_end ?_
 refine c_condF S rfl rfl ?_
 refine wp_skip ?_
 refine x_thenN ?_
 refine c_region ?_
 refine s_move S rfl rfl ?_; clear S a; intro a S
 refine s_build S (ds := [(0, (.v (.int .u8 1)))]) (dv := (.agg [.ints .u8 [1, 0, 0, 0, 0, 0, 0, 0, 0, 0, 0, 0, 0, 0, 0, 0, 0, 0, 0, 0] 20])) rfl (fun _ => by kernel_rfl) ⟨rfl, trivial⟩ rfl ?_; clear S a; intro a S
 refine s_build S (ds := [(0, (.v (.int .u64 1)))]) (dv := (.agg [.ints .u64 [1, 0, 0, 0] 4])) rfl (fun _ => by kernel_rfl) ⟨rfl, trivial⟩ rfl ?_; clear S a; intro a S
 refine s_build S (ds := [(0, (.v (.int .u64 5)))]) (dv := (.agg [.ints .u64 [5, 0, 0, 0] 4])) rfl (fun _ => by kernel_rfl) ⟨rfl, trivial⟩ rfl ?_; clear S a; intro a S
 obtain ⟨t2, et2, h2⟩ := bind_of h1; clear h1
 refine s_callX S (ds' := [(.v (.pointer (some ⟨ch1.1, 0, none⟩))), (.agg [.ints .u8 [1, 0, 0, 0, 0, 0, 0, 0, 0, 0, 0, 0, 0, 0, 0, 0, 0, 0, 0, 0] 20]), (.agg [.ints .u64 [1, 0, 0, 0] 4]), (.agg [.ints .u64 [5, 0, 0, 0] 4])]) (ds := [(.v (.pointer (some ⟨ch1.1, 0, none⟩))), (.agg [.ints .u8 [1, 0, 0, 0, 0, 0, 0, 0, 0, 0, 0, 0, 0, 0, 0, 0, 0, 0, 0, 0] 20]), (.agg [.ints .u64 [1, 0, 0, 0] 4]), (.agg [.ints .u64 [5, 0, 0, 0] 4])]) [Res.cells ch1.1 79 [.rf (.iface 75 (.agg (cellsOf [.sl ch1.2.1 (t1.1).length ch1.2.2.1 (RdS Y71 ch1.2.1 t1.1)]).toArray)) (IfR [.sl ch1.2.1 (t1.1).length ch1.2.2.1 (RdS Y71 ch1.2.1 t1.1)]), .one (.map (some ch1.2.2.2.1)), .one (.int .i64 t1.2.2.1), .one (.slice ch1.2.2.2.2.2.2.2.1 ch1.2.2.2.2.2.2.2.2.1 ch1.2.2.2.2.2.2.2.2.2.1), .one (.slice ch1.2.2.2.2.2.2.2.2.2.2.1 ch1.2.2.2.2.2.2.2.2.2.2.2.1 ch1.2.2.2.2.2.2.2.2.2.2.2.2.1), .one (.slice ch1.2.2.2.2.2.2.2.2.2.2.2.2.2.1 ch1.2.2.2.2.2.2.2.2.2.2.2.2.2.2.1 ch1.2.2.2.2.2.2.2.2.2.2.2.2.2.2.2)], Res.map true (Ty.arr .u8 20) false (Ty.pid ch1.2.2.2.2.1) ch1.2.2.2.1 t1.2.1.1, Res.fam (Res.struct (YE110 ch1.2.2.2.2.2.1 ch1.2.2.2.2.2.2.1) 110) (one_struct _ _) ch1.2.2.2.2.1 [] t1.2.1.2.1, Res.fam (fun g_ kvs_ => Res.map true (Ty.arr .u64 4) true (Ty.arr .u64 4) g_ kvs_) (one_map true (Ty.arr .u64 4) true (Ty.arr .u64 4)) ch1.2.2.2.2.2.1 [] t1.2.1.2.2.1, Res.fam (fun g_ kvs_ => Res.map true (Ty.arr .u64 4) false Ty.bool g_ kvs_) (one_map true (Ty.arr .u64 4) false Ty.bool) ch1.2.2.2.2.2.2.1 [] t1.2.1.2.2.2, Res.row Y100 100 ch1.2.2.2.2.2.2.2.1 ch1.2.2.2.2.2.2.2.2.1 ch1.2.2.2.2.2.2.2.2.2.1 t1.2.2.2.1, Res.row (YC ch1.1 ch1.2.2.2.2.1 ch1.2.2.2.2.2.1 ch1.2.2.2.2.2.2.1) 1 ch1.2.2.2.2.2.2.2.2.2.2.1 ch1.2.2.2.2.2.2.2.2.2.2.2.1 ch1.2.2.2.2.2.2.2.2.2.2.2.2.1 t1.2.2.2.2.1, Res.row (Ty.arr .u8 20) 40 ch1.2.2.2.2.2.2.2.2.2.2.2.2.2.1 ch1.2.2.2.2.2.2.2.2.2.2.2.2.2.2.1 ch1.2.2.2.2.2.2.2.2.2.2.2.2.2.2.2 t1.2.2.2.2.2] [] (fun (ch : W6) => ((.tup []) : D)) (fun (ch : W6) => [Res.cells ch1.1 79 [.rf (.iface 75 (.agg (cellsOf [.sl ch1.2.1 (t1.1).length ch1.2.2.1 (RdS Y71 ch1.2.1 t1.1)]).toArray)) (IfR [.sl ch1.2.1 (t1.1).length ch1.2.2.1 (RdS Y71 ch1.2.1 t1.1)]), .one (.map (some ch.1)), .one (.int .i64 t1.2.2.1), .one (.slice ch.2.2.2.2.1 ch.2.2.2.2.2.1 ch.2.2.2.2.2.2.1), .one (.slice ch.2.2.2.2.2.2.2.1 ch.2.2.2.2.2.2.2.2.1 ch.2.2.2.2.2.2.2.2.2.1), .one (.slice ch.2.2.2.2.2.2.2.2.2.2.1 ch.2.2.2.2.2.2.2.2.2.2.2.1 ch.2.2.2.2.2.2.2.2.2.2.2.2)], Res.map true (Ty.arr .u8 20) false (Ty.pid ch.2.1) ch.1 t2.2.1.1, Res.fam (Res.struct (YE110 ch.2.2.1 ch.2.2.2.1) 110) (one_struct _ _) ch.2.1 [] t2.2.1.2.1, Res.fam (fun g_ kvs_ => Res.map true (Ty.arr .u64 4) true (Ty.arr .u64 4) g_ kvs_) (one_map true (Ty.arr .u64 4) true (Ty.arr .u64 4)) ch.2.2.1 [] t2.2.1.2.2.1, Res.fam (fun g_ kvs_ => Res.map true (Ty.arr .u64 4) false Ty.bool g_ kvs_) (one_map true (Ty.arr .u64 4) false Ty.bool) ch.2.2.2.1 [] t2.2.1.2.2.2, Res.row Y100 100 ch.2.2.2.2.1 ch.2.2.2.2.2.1 ch.2.2.2.2.2.2.1 t2.2.2.2.1, Res.row (YC ch1.1 ch.2.1 ch.2.2.1 ch.2.2.2.1) 1 ch.2.2.2.2.2.2.2.1 ch.2.2.2.2.2.2.2.2.1 ch.2.2.2.2.2.2.2.2.2.1 t2.2.2.2.2.1, Res.row (Ty.arr .u8 20) 40 ch.2.2.2.2.2.2.2.2.2.2.1 ch.2.2.2.2.2.2.2.2.2.2.2.1 ch.2.2.2.2.2.2.2.2.2.2.2.2 t2.2.2.2.2.2]) (fun (ch : W6) => [Res.cells ch1.1 79 [.rf (.iface 75 (.agg (cellsOf [.sl ch1.2.1 (t1.1).length ch1.2.2.1 (RdS Y71 ch1.2.1 t1.1)]).toArray)) (IfR [.sl ch1.2.1 (t1.1).length ch1.2.2.1 (RdS Y71 ch1.2.1 t1.1)]), .one (.map (some ch.1)), .one (.int .i64 t1.2.2.1), .one (.slice ch.2.2.2.2.1 ch.2.2.2.2.2.1 ch.2.2.2.2.2.2.1), .one (.slice ch.2.2.2.2.2.2.2.1 ch.2.2.2.2.2.2.2.2.1 ch.2.2.2.2.2.2.2.2.2.1), .one (.slice ch.2.2.2.2.2.2.2.2.2.2.1 ch.2.2.2.2.2.2.2.2.2.2.2.1 ch.2.2.2.2.2.2.2.2.2.2.2.2)], Res.map true (Ty.arr .u8 20) false (Ty.pid ch.2.1) ch.1 t2.2.1.1, Res.fam (Res.struct (YE110 ch.2.2.1 ch.2.2.2.1) 110) (one_struct _ _) ch.2.1 [] t2.2.1.2.1, Res.fam (fun g_ kvs_ => Res.map true (Ty.arr .u64 4) true (Ty.arr .u64 4) g_ kvs_) (one_map true (Ty.arr .u64 4) true (Ty.arr .u64 4)) ch.2.2.1 [] t2.2.1.2.2.1, Res.fam (fun g_ kvs_ => Res.map true (Ty.arr .u64 4) false Ty.bool g_ kvs_) (one_map true (Ty.arr .u64 4) false Ty.bool) ch.2.2.2.1 [] t2.2.1.2.2.2, Res.row Y100 100 ch.2.2.2.2.1 ch.2.2.2.2.2.1 ch.2.2.2.2.2.2.1 t2.2.2.2.1, Res.row (YC ch1.1 ch.2.1 ch.2.2.1 ch.2.2.2.1) 1 ch.2.2.2.2.2.2.2.1 ch.2.2.2.2.2.2.2.2.1 ch.2.2.2.2.2.2.2.2.2.1 t2.2.2.2.2.1, Res.row (Ty.arr .u8 20) 40 ch.2.2.2.2.2.2.2.2.2.2.1 ch.2.2.2.2.2.2.2.2.2.2.2.1 ch.2.2.2.2.2.2.2.2.2.2.2.2 t2.2.2.2.2.2]) (fun _ => rfl) N32 rfl rfl (fun ok => ok) (.cons .here (.cons .here (.cons .here (.cons .here (.cons .here (.cons .here (.cons .here (.cons .here .nil)))))))) rfl (state_State_Set.ok k ((t1.1), t1.2.1, t1.2.2.1, t1.2.2.2.1, t1.2.2.2.2.1, t1.2.2.2.2.2) [1, 0, 0, 0, 0, 0, 0, 0, 0, 0, 0, 0, 0, 0, 0, 0, 0, 0, 0, 0] [1, 0, 0, 0] [5, 0, 0, 0] ch1.1 ch1.2.1 ch1.2.2.1 ch1.2.2.2.1 ch1.2.2.2.2.1 ch1.2.2.2.2.2.1 ch1.2.2.2.2.2.2.1 ch1.2.2.2.2.2.2.2.1 ch1.2.2.2.2.2.2.2.2.1 ch1.2.2.2.2.2.2.2.2.2.1 ch1.2.2.2.2.2.2.2.2.2.2.1 ch1.2.2.2.2.2.2.2.2.2.2.2.1 ch1.2.2.2.2.2.2.2.2.2.2.2.2.1 ch1.2.2.2.2.2.2.2.2.2.2.2.2.2.1 ch1.2.2.2.2.2.2.2.2.2.2.2.2.2.2.1 ch1.2.2.2.2.2.2.2.2.2.2.2.2.2.2.2 t2 et2 _ _) ?_; clear S a w; intro ch2 m le1 a w S
 refine c_end ?_
 refine c_region ?_
 refine s_move S rfl rfl ?_; clear S a; intro a S
 obtain ⟨t3, et3, h3⟩ := bind_of h2; clear h2
 refine s_callX S (ds' := [(.v (.pointer (some ⟨ch1.1, 0, none⟩)))]) (ds := [(.v (.pointer (some ⟨ch1.1, 0, none⟩)))]) [Res.cells ch1.1 79 [.rf (.iface 75 (.agg (cellsOf [.sl ch1.2.1 (t1.1).length ch1.2.2.1 (RdS Y71 ch1.2.1 t1.1)]).toArray)) (IfR [.sl ch1.2.1 (t1.1).length ch1.2.2.1 (RdS Y71 ch1.2.1 t1.1)]), .one (.map (some ch2.1)), .one (.int .i64 t1.2.2.1), .one (.slice ch2.2.2.2.2.1 ch2.2.2.2.2.2.1 ch2.2.2.2.2.2.2.1), .one (.slice ch2.2.2.2.2.2.2.2.1 ch2.2.2.2.2.2.2.2.2.1 ch2.2.2.2.2.2.2.2.2.2.1), .one (.slice ch2.2.2.2.2.2.2.2.2.2.2.1 ch2.2.2.2.2.2.2.2.2.2.2.2.1 ch2.2.2.2.2.2.2.2.2.2.2.2.2)], Res.map true (Ty.arr .u8 20) false (Ty.pid ch2.2.1) ch2.1 t2.2.1.1, Res.fam (Res.struct (YE110 ch2.2.2.1 ch2.2.2.2.1) 110) (one_struct _ _) ch2.2.1 [] t2.2.1.2.1, Res.fam (fun g_ kvs_ => Res.map true (Ty.arr .u64 4) true (Ty.arr .u64 4) g_ kvs_) (one_map true (Ty.arr .u64 4) true (Ty.arr .u64 4)) ch2.2.2.1 [] t2.2.1.2.2.1, Res.fam (fun g_ kvs_ => Res.map true (Ty.arr .u64 4) false Ty.bool g_ kvs_) (one_map true (Ty.arr .u64 4) false Ty.bool) ch2.2.2.2.1 [] t2.2.1.2.2.2, Res.row Y100 100 ch2.2.2.2.2.1 ch2.2.2.2.2.2.1 ch2.2.2.2.2.2.2.1 t2.2.2.2.1, Res.row (YC ch1.1 ch2.2.1 ch2.2.2.1 ch2.2.2.2.1) 1 ch2.2.2.2.2.2.2.2.1 ch2.2.2.2.2.2.2.2.2.1 ch2.2.2.2.2.2.2.2.2.2.1 t2.2.2.2.2.1, Res.row (Ty.arr .u8 20) 40 ch2.2.2.2.2.2.2.2.2.2.2.1 ch2.2.2.2.2.2.2.2.2.2.2.2.1 ch2.2.2.2.2.2.2.2.2.2.2.2.2 t2.2.2.2.2.2] [] (fun (ch : Unit) => ((.v (.int .i64 t3)) : D)) (fun (ch : Unit) => [Res.cells ch1.1 79 [.rf (.iface 75 (.agg (cellsOf [.sl ch1.2.1 (t1.1).length ch1.2.2.1 (RdS Y71 ch1.2.1 t1.1)]).toArray)) (IfR [.sl ch1.2.1 (t1.1).length ch1.2.2.1 (RdS Y71 ch1.2.1 t1.1)]), .one (.map (some ch2.1)), .one (.int .i64 t1.2.2.1), .one (.slice ch2.2.2.2.2.1 ch2.2.2.2.2.2.1 ch2.2.2.2.2.2.2.1), .one (.slice ch2.2.2.2.2.2.2.2.1 ch2.2.2.2.2.2.2.2.2.1 ch2.2.2.2.2.2.2.2.2.2.1), .one (.slice ch2.2.2.2.2.2.2.2.2.2.2.1 ch2.2.2.2.2.2.2.2.2.2.2.2.1 ch2.2.2.2.2.2.2.2.2.2.2.2.2)], Res.map true (Ty.arr .u8 20) false (Ty.pid ch2.2.1) ch2.1 t2.2.1.1, Res.fam (Res.struct (YE110 ch2.2.2.1 ch2.2.2.2.1) 110) (one_struct _ _) ch2.2.1 [] t2.2.1.2.1, Res.fam (fun g_ kvs_ => Res.map true (Ty.arr .u64 4) true (Ty.arr .u64 4) g_ kvs_) (one_map true (Ty.arr .u64 4) true (Ty.arr .u64 4)) ch2.2.2.1 [] t2.2.1.2.2.1, Res.fam (fun g_ kvs_ => Res.map true (Ty.arr .u64 4) false Ty.bool g_ kvs_) (one_map true (Ty.arr .u64 4) false Ty.bool) ch2.2.2.2.1 [] t2.2.1.2.2.2, Res.row Y100 100 ch2.2.2.2.2.1 ch2.2.2.2.2.2.1 ch2.2.2.2.2.2.2.1 t2.2.2.2.1, Res.row (YC ch1.1 ch2.2.1 ch2.2.2.1 ch2.2.2.2.1) 1 ch2.2.2.2.2.2.2.2.1 ch2.2.2.2.2.2.2.2.2.1 ch2.2.2.2.2.2.2.2.2.2.1 t2.2.2.2.2.1, Res.row (Ty.arr .u8 20) 40 ch2.2.2.2.2.2.2.2.2.2.2.1 ch2.2.2.2.2.2.2.2.2.2.2.2.1 ch2.2.2.2.2.2.2.2.2.2.2.2.2 t2.2.2.2.2.2]) (fun (ch : Unit) => [Res.cells ch1.1 79 [.rf (.iface 75 (.agg (cellsOf [.sl ch1.2.1 (t1.1).length ch1.2.2.1 (RdS Y71 ch1.2.1 t1.1)]).toArray)) (IfR [.sl ch1.2.1 (t1.1).length ch1.2.2.1 (RdS Y71 ch1.2.1 t1.1)]), .one (.map (some ch2.1)), .one (.int .i64 t1.2.2.1), .one (.slice ch2.2.2.2.2.1 ch2.2.2.2.2.2.1 ch2.2.2.2.2.2.2.1), .one (.slice ch2.2.2.2.2.2.2.2.1 ch2.2.2.2.2.2.2.2.2.1 ch2.2.2.2.2.2.2.2.2.2.1), .one (.slice ch2.2.2.2.2.2.2.2.2.2.2.1 ch2.2.2.2.2.2.2.2.2.2.2.2.1 ch2.2.2.2.2.2.2.2.2.2.2.2.2)], Res.map true (Ty.arr .u8 20) false (Ty.pid ch2.2.1) ch2.1 t2.2.1.1, Res.fam (Res.struct (YE110 ch2.2.2.1 ch2.2.2.2.1) 110) (one_struct _ _) ch2.2.1 [] t2.2.1.2.1, Res.fam (fun g_ kvs_ => Res.map true (Ty.arr .u64 4) true (Ty.arr .u64 4) g_ kvs_) (one_map true (Ty.arr .u64 4) true (Ty.arr .u64 4)) ch2.2.2.1 [] t2.2.1.2.2.1, Res.fam (fun g_ kvs_ => Res.map true (Ty.arr .u64 4) false Ty.bool g_ kvs_) (one_map true (Ty.arr .u64 4) false Ty.bool) ch2.2.2.2.1 [] t2.2.1.2.2.2, Res.row Y100 100 ch2.2.2.2.2.1 ch2.2.2.2.2.2.1 ch2.2.2.2.2.2.2.1 t2.2.2.2.1, Res.row (YC ch1.1 ch2.2.1 ch2.2.2.1 ch2.2.2.2.1) 1 ch2.2.2.2.2.2.2.2.1 ch2.2.2.2.2.2.2.2.2.1 ch2.2.2.2.2.2.2.2.2.2.1 t2.2.2.2.2.1, Res.row (Ty.arr .u8 20) 40 ch2.2.2.2.2.2.2.2.2.2.2.1 ch2.2.2.2.2.2.2.2.2.2.2.2.1 ch2.2.2.2.2.2.2.2.2.2.2.2.2 t2.2.2.2.2.2]) (fun _ => rfl) N13 rfl rfl (fun ok => ok) (.cons .here (.cons .here (.cons .here (.cons .here (.cons .here (.cons .here (.cons .here (.cons .here .nil)))))))) rfl (state_State_Mark.ok ((t1.1), t2.2.1, t1.2.2.1, t2.2.2.2.1, t2.2.2.2.2.1, t2.2.2.2.2.2) ch1.1 ch1.2.1 ch1.2.2.1 ch2.1 ch2.2.1 ch2.2.2.1 ch2.2.2.2.1 ch2.2.2.2.2.1 ch2.2.2.2.2.2.1 ch2.2.2.2.2.2.2.1 ch2.2.2.2.2.2.2.2.1 ch2.2.2.2.2.2.2.2.2.1 ch2.2.2.2.2.2.2.2.2.2.1 ch2.2.2.2.2.2.2.2.2.2.2.1 ch2.2.2.2.2.2.2.2.2.2.2.2.1 ch2.2.2.2.2.2.2.2.2.2.2.2.2 t3 et3 _ _) ?_; clear S a w; intro ch3 m le1 a w S
 refine s_assign S rfl rfl ?_; clear S a; intro a S
 refine c_end ?_
 refine c_region ?_
 refine s_move S rfl rfl ?_; clear S a; intro a S
 refine s_build S (ds := [(0, (.v (.int .u8 1)))]) (dv := (.agg [.ints .u8 [1, 0, 0, 0, 0, 0, 0, 0, 0, 0, 0, 0, 0, 0, 0, 0, 0, 0, 0, 0] 20])) rfl (fun _ => by kernel_rfl) ⟨rfl, trivial⟩ rfl ?_; clear S a; intro a S
 refine s_build S (ds := [(0, (.v (.int .u64 1)))]) (dv := (.agg [.ints .u64 [1, 0, 0, 0] 4])) rfl (fun _ => by kernel_rfl) ⟨rfl, trivial⟩ rfl ?_; clear S a; intro a S
 refine s_build S (ds := [(0, (.v (.int .u64 7)))]) (dv := (.agg [.ints .u64 [7, 0, 0, 0] 4])) rfl (fun _ => by kernel_rfl) ⟨rfl, trivial⟩ rfl ?_; clear S a; intro a S
 obtain ⟨t4, et4, h4⟩ := bind_of h3; clear h3
 refine s_callX S (ds' := [(.v (.pointer (some ⟨ch1.1, 0, none⟩))), (.agg [.ints .u8 [1, 0, 0, 0, 0, 0, 0, 0, 0, 0, 0, 0, 0, 0, 0, 0, 0, 0, 0, 0] 20]), (.agg [.ints .u64 [1, 0, 0, 0] 4]), (.agg [.ints .u64 [7, 0, 0, 0] 4])]) (ds := [(.v (.pointer (some ⟨ch1.1, 0, none⟩))), (.agg [.ints .u8 [1, 0, 0, 0, 0, 0, 0, 0, 0, 0, 0, 0, 0, 0, 0, 0, 0, 0, 0, 0] 20]), (.agg [.ints .u64 [1, 0, 0, 0] 4]), (.agg [.ints .u64 [7, 0, 0, 0] 4])]) [Res.cells ch1.1 79 [.rf (.iface 75 (.agg (cellsOf [.sl ch1.2.1 (t1.1).length ch1.2.2.1 (RdS Y71 ch1.2.1 t1.1)]).toArray)) (IfR [.sl ch1.2.1 (t1.1).length ch1.2.2.1 (RdS Y71 ch1.2.1 t1.1)]), .one (.map (some ch2.1)), .one (.int .i64 t1.2.2.1), .one (.slice ch2.2.2.2.2.1 ch2.2.2.2.2.2.1 ch2.2.2.2.2.2.2.1), .one (.slice ch2.2.2.2.2.2.2.2.1 ch2.2.2.2.2.2.2.2.2.1 ch2.2.2.2.2.2.2.2.2.2.1), .one (.slice ch2.2.2.2.2.2.2.2.2.2.2.1 ch2.2.2.2.2.2.2.2.2.2.2.2.1 ch2.2.2.2.2.2.2.2.2.2.2.2.2)], Res.map true (Ty.arr .u8 20) false (Ty.pid ch2.2.1) ch2.1 t2.2.1.1, Res.fam (Res.struct (YE110 ch2.2.2.1 ch2.2.2.2.1) 110) (one_struct _ _) ch2.2.1 [] t2.2.1.2.1, Res.fam (fun g_ kvs_ => Res.map true (Ty.arr .u64 4) true (Ty.arr .u64 4) g_ kvs_) (one_map true (Ty.arr .u64 4) true (Ty.arr .u64 4)) ch2.2.2.1 [] t2.2.1.2.2.1, Res.fam (fun g_ kvs_ => Res.map true (Ty.arr .u64 4) false Ty.bool g_ kvs_) (one_map true (Ty.arr .u64 4) false Ty.bool) ch2.2.2.2.1 [] t2.2.1.2.2.2, Res.row Y100 100 ch2.2.2.2.2.1 ch2.2.2.2.2.2.1 ch2.2.2.2.2.2.2.1 t2.2.2.2.1, Res.row (YC ch1.1 ch2.2.1 ch2.2.2.1 ch2.2.2.2.1) 1 ch2.2.2.2.2.2.2.2.1 ch2.2.2.2.2.2.2.2.2.1 ch2.2.2.2.2.2.2.2.2.2.1 t2.2.2.2.2.1, Res.row (Ty.arr .u8 20) 40 ch2.2.2.2.2.2.2.2.2.2.2.1 ch2.2.2.2.2.2.2.2.2.2.2.2.1 ch2.2.2.2.2.2.2.2.2.2.2.2.2 t2.2.2.2.2.2] [] (fun (ch : W6) => ((.tup []) : D)) (fun (ch : W6) => [Res.cells ch1.1 79 [.rf (.iface 75 (.agg (cellsOf [.sl ch1.2.1 (t1.1).length ch1.2.2.1 (RdS Y71 ch1.2.1 t1.1)]).toArray)) (IfR [.sl ch1.2.1 (t1.1).length ch1.2.2.1 (RdS Y71 ch1.2.1 t1.1)]), .one (.map (some ch.1)), .one (.int .i64 t1.2.2.1), .one (.slice ch.2.2.2.2.1 ch.2.2.2.2.2.1 ch.2.2.2.2.2.2.1), .one (.slice ch.2.2.2.2.2.2.2.1 ch.2.2.2.2.2.2.2.2.1 ch.2.2.2.2.2.2.2.2.2.1), .one (.slice ch.2.2.2.2.2.2.2.2.2.2.1 ch.2.2.2.2.2.2.2.2.2.2.2.1 ch.2.2.2.2.2.2.2.2.2.2.2.2)], Res.map true (Ty.arr .u8 20) false (Ty.pid ch.2.1) ch.1 t4.2.1.1, Res.fam (Res.struct (YE110 ch.2.2.1 ch.2.2.2.1) 110) (one_struct _ _) ch.2.1 [] t4.2.1.2.1, Res.fam (fun g_ kvs_ => Res.map true (Ty.arr .u64 4) true (Ty.arr .u64 4) g_ kvs_) (one_map true (Ty.arr .u64 4) true (Ty.arr .u64 4)) ch.2.2.1 [] t4.2.1.2.2.1, Res.fam (fun g_ kvs_ => Res.map true (Ty.arr .u64 4) false Ty.bool g_ kvs_) (one_map true (Ty.arr .u64 4) false Ty.bool) ch.2.2.2.1 [] t4.2.1.2.2.2, Res.row Y100 100 ch.2.2.2.2.1 ch.2.2.2.2.2.1 ch.2.2.2.2.2.2.1 t4.2.2.2.1, Res.row (YC ch1.1 ch.2.1 ch.2.2.1 ch.2.2.2.1) 1 ch.2.2.2.2.2.2.2.1 ch.2.2.2.2.2.2.2.2.1 ch.2.2.2.2.2.2.2.2.2.1 t4.2.2.2.2.1, Res.row (Ty.arr .u8 20) 40 ch.2.2.2.2.2.2.2.2.2.2.1 ch.2.2.2.2.2.2.2.2.2.2.2.1 ch.2.2.2.2.2.2.2.2.2.2.2.2 t4.2.2.2.2.2]) (fun (ch : W6) => [Res.cells ch1.1 79 [.rf (.iface 75 (.agg (cellsOf [.sl ch1.2.1 (t1.1).length ch1.2.2.1 (RdS Y71 ch1.2.1 t1.1)]).toArray)) (IfR [.sl ch1.2.1 (t1.1).length ch1.2.2.1 (RdS Y71 ch1.2.1 t1.1)]), .one (.map (some ch.1)), .one (.int .i64 t1.2.2.1), .one (.slice ch.2.2.2.2.1 ch.2.2.2.2.2.1 ch.2.2.2.2.2.2.1), .one (.slice ch.2.2.2.2.2.2.2.1 ch.2.2.2.2.2.2.2.2.1 ch.2.2.2.2.2.2.2.2.2.1), .one (.slice ch.2.2.2.2.2.2.2.2.2.2.1 ch.2.2.2.2.2.2.2.2.2.2.2.1 ch.2.2.2.2.2.2.2.2.2.2.2.2)], Res.map true (Ty.arr .u8 20) false (Ty.pid ch.2.1) ch.1 t4.2.1.1, Res.fam (Res.struct (YE110 ch.2.2.1 ch.2.2.2.1) 110) (one_struct _ _) ch.2.1 [] t4.2.1.2.1, Res.fam (fun g_ kvs_ => Res.map true (Ty.arr .u64 4) true (Ty.arr .u64 4) g_ kvs_) (one_map true (Ty.arr .u64 4) true (Ty.arr .u64 4)) ch.2.2.1 [] t4.2.1.2.2.1, Res.fam (fun g_ kvs_ => Res.map true (Ty.arr .u64 4) false Ty.bool g_ kvs_) (one_map true (Ty.arr .u64 4) false Ty.bool) ch.2.2.2.1 [] t4.2.1.2.2.2, Res.row Y100 100 ch.2.2.2.2.1 ch.2.2.2.2.2.1 ch.2.2.2.2.2.2.1 t4.2.2.2.1, Res.row (YC ch1.1 ch.2.1 ch.2.2.1 ch.2.2.2.1) 1 ch.2.2.2.2.2.2.2.1 ch.2.2.2.2.2.2.2.2.1 ch.2.2.2.2.2.2.2.2.2.1 t4.2.2.2.2.1, Res.row (Ty.arr .u8 20) 40 ch.2.2.2.2.2.2.2.2.2.2.1 ch.2.2.2.2.2.2.2.2.2.2.2.1 ch.2.2.2.2.2.2.2.2.2.2.2.2 t4.2.2.2.2.2]) (fun _ => rfl) N32 rfl rfl (fun ok => ok) (.cons .here (.cons .here (.cons .here (.cons .here (.cons .here (.cons .here (.cons .here (.cons .here .nil)))))))) rfl (state_State_Set.ok k ((t1.1), t2.2.1, t1.2.2.1, t2.2.2.2.1, t2.2.2.2.2.1, t2.2.2.2.2.2) [1, 0, 0, 0, 0, 0, 0, 0, 0, 0, 0, 0, 0, 0, 0, 0, 0, 0, 0, 0] [1, 0, 0, 0] [7, 0, 0, 0] ch1.1 ch1.2.1 ch1.2.2.1 ch2.1 ch2.2.1 ch2.2.2.1 ch2.2.2.2.1 ch2.2.2.2.2.1 ch2.2.2.2.2.2.1 ch2.2.2.2.2.2.2.1 ch2.2.2.2.2.2.2.2.1 ch2.2.2.2.2.2.2.2.2.1 ch2.2.2.2.2.2.2.2.2.2.1 ch2.2.2.2.2.2.2.2.2.2.2.1 ch2.2.2.2.2.2.2.2.2.2.2.2.1 ch2.2.2.2.2.2.2.2.2.2.2.2.2 t4 et4 _ _) ?_; clear S a w; intro ch4 m le1 a w S
 refine c_end ?_
 refine c_region ?_
 refine s_move S rfl rfl ?_; clear S a; intro a S
 refine s_move S rfl rfl ?_; clear S a; intro a S
 obtain ⟨t5, et5, h5⟩ := bind_of h4; clear h4
 refine s_callX S (ds' := [(.v (.pointer (some ⟨ch1.1, 0, none⟩))), (.v (.int .i64 t3))]) (ds := [(.v (.pointer (some ⟨ch1.1, 0, none⟩))), (.v (.int .i64 t3))]) [Res.cells ch1.1 79 [.rf (.iface 75 (.agg (cellsOf [.sl ch1.2.1 (t1.1).length ch1.2.2.1 (RdS Y71 ch1.2.1 t1.1)]).toArray)) (IfR [.sl ch1.2.1 (t1.1).length ch1.2.2.1 (RdS Y71 ch1.2.1 t1.1)]), .one (.map (some ch4.1)), .one (.int .i64 t1.2.2.1), .one (.slice ch4.2.2.2.2.1 ch4.2.2.2.2.2.1 ch4.2.2.2.2.2.2.1), .one (.slice ch4.2.2.2.2.2.2.2.1 ch4.2.2.2.2.2.2.2.2.1 ch4.2.2.2.2.2.2.2.2.2.1), .one (.slice ch4.2.2.2.2.2.2.2.2.2.2.1 ch4.2.2.2.2.2.2.2.2.2.2.2.1 ch4.2.2.2.2.2.2.2.2.2.2.2.2)], Res.map true (Ty.arr .u8 20) false (Ty.pid ch4.2.1) ch4.1 t4.2.1.1, Res.fam (Res.struct (YE110 ch4.2.2.1 ch4.2.2.2.1) 110) (one_struct _ _) ch4.2.1 [] t4.2.1.2.1, Res.fam (fun g_ kvs_ => Res.map true (Ty.arr .u64 4) true (Ty.arr .u64 4) g_ kvs_) (one_map true (Ty.arr .u64 4) true (Ty.arr .u64 4)) ch4.2.2.1 [] t4.2.1.2.2.1, Res.fam (fun g_ kvs_ => Res.map true (Ty.arr .u64 4) false Ty.bool g_ kvs_) (one_map true (Ty.arr .u64 4) false Ty.bool) ch4.2.2.2.1 [] t4.2.1.2.2.2, Res.row Y100 100 ch4.2.2.2.2.1 ch4.2.2.2.2.2.1 ch4.2.2.2.2.2.2.1 t4.2.2.2.1, Res.row (YC ch1.1 ch4.2.1 ch4.2.2.1 ch4.2.2.2.1) 1 ch4.2.2.2.2.2.2.2.1 ch4.2.2.2.2.2.2.2.2.1 ch4.2.2.2.2.2.2.2.2.2.1 t4.2.2.2.2.1, Res.row (Ty.arr .u8 20) 40 ch4.2.2.2.2.2.2.2.2.2.2.1 ch4.2.2.2.2.2.2.2.2.2.2.2.1 ch4.2.2.2.2.2.2.2.2.2.2.2.2 t4.2.2.2.2.2] [] (fun (ch : W14) => ((.tup []) : D)) (fun (ch : W14) => [Res.cells ch1.1 79 [.rf (.iface 75 (.agg (cellsOf [.sl ch.1 (t5.1).length ch.2.1 (RdS Y71 ch.1 t5.1)]).toArray)) (IfR [.sl ch.1 (t5.1).length ch.2.1 (RdS Y71 ch.1 t5.1)]), .one (.map (some ch.2.2.1)), .one (.int .i64 t5.2.2.1), .one (.slice ch.2.2.2.2.2.2.1 ch.2.2.2.2.2.2.2.1 ch.2.2.2.2.2.2.2.2.1), .one (.slice ch.2.2.2.2.2.2.2.2.2.1 ch.2.2.2.2.2.2.2.2.2.2.1 ch.2.2.2.2.2.2.2.2.2.2.2.1), .one (.slice ch.2.2.2.2.2.2.2.2.2.2.2.2.1 ch.2.2.2.2.2.2.2.2.2.2.2.2.2.1 ch.2.2.2.2.2.2.2.2.2.2.2.2.2.2)], Res.map true (Ty.arr .u8 20) false (Ty.pid ch.2.2.2.1) ch.2.2.1 t5.2.1.1, Res.fam (Res.struct (YE110 ch.2.2.2.2.1 ch.2.2.2.2.2.1) 110) (one_struct _ _) ch.2.2.2.1 [] t5.2.1.2.1, Res.fam (fun g_ kvs_ => Res.map true (Ty.arr .u64 4) true (Ty.arr .u64 4) g_ kvs_) (one_map true (Ty.arr .u64 4) true (Ty.arr .u64 4)) ch.2.2.2.2.1 [] t5.2.1.2.2.1, Res.fam (fun g_ kvs_ => Res.map true (Ty.arr .u64 4) false Ty.bool g_ kvs_) (one_map true (Ty.arr .u64 4) false Ty.bool) ch.2.2.2.2.2.1 [] t5.2.1.2.2.2, Res.row Y100 100 ch.2.2.2.2.2.2.1 ch.2.2.2.2.2.2.2.1 ch.2.2.2.2.2.2.2.2.1 t5.2.2.2.1, Res.row (YC ch1.1 ch.2.2.2.1 ch.2.2.2.2.1 ch.2.2.2.2.2.1) 1 ch.2.2.2.2.2.2.2.2.2.1 ch.2.2.2.2.2.2.2.2.2.2.1 ch.2.2.2.2.2.2.2.2.2.2.2.1 t5.2.2.2.2.1, Res.row (Ty.arr .u8 20) 40 ch.2.2.2.2.2.2.2.2.2.2.2.2.1 ch.2.2.2.2.2.2.2.2.2.2.2.2.2.1 ch.2.2.2.2.2.2.2.2.2.2.2.2.2.2 t5.2.2.2.2.2]) (fun (ch : W14) => [Res.cells ch1.1 79 [.rf (.iface 75 (.agg (cellsOf [.sl ch.1 (t5.1).length ch.2.1 (RdS Y71 ch.1 t5.1)]).toArray)) (IfR [.sl ch.1 (t5.1).length ch.2.1 (RdS Y71 ch.1 t5.1)]), .one (.map (some ch.2.2.1)), .one (.int .i64 t5.2.2.1), .one (.slice ch.2.2.2.2.2.2.1 ch.2.2.2.2.2.2.2.1 ch.2.2.2.2.2.2.2.2.1), .one (.slice ch.2.2.2.2.2.2.2.2.2.1 ch.2.2.2.2.2.2.2.2.2.2.1 ch.2.2.2.2.2.2.2.2.2.2.2.1), .one (.slice ch.2.2.2.2.2.2.2.2.2.2.2.2.1 ch.2.2.2.2.2.2.2.2.2.2.2.2.2.1 ch.2.2.2.2.2.2.2.2.2.2.2.2.2.2)], Res.map true (Ty.arr .u8 20) false (Ty.pid ch.2.2.2.1) ch.2.2.1 t5.2.1.1, Res.fam (Res.struct (YE110 ch.2.2.2.2.1 ch.2.2.2.2.2.1) 110) (one_struct _ _) ch.2.2.2.1 [] t5.2.1.2.1, Res.fam (fun g_ kvs_ => Res.map true (Ty.arr .u64 4) true (Ty.arr .u64 4) g_ kvs_) (one_map true (Ty.arr .u64 4) true (Ty.arr .u64 4)) ch.2.2.2.2.1 [] t5.2.1.2.2.1, Res.fam (fun g_ kvs_ => Res.map true (Ty.arr .u64 4) false Ty.bool g_ kvs_) (one_map true (Ty.arr .u64 4) false Ty.bool) ch.2.2.2.2.2.1 [] t5.2.1.2.2.2, Res.row Y100 100 ch.2.2.2.2.2.2.1 ch.2.2.2.2.2.2.2.1 ch.2.2.2.2.2.2.2.2.1 t5.2.2.2.1, Res.row (YC ch1.1 ch.2.2.2.1 ch.2.2.2.2.1 ch.2.2.2.2.2.1) 1 ch.2.2.2.2.2.2.2.2.2.1 ch.2.2.2.2.2.2.2.2.2.2.1 ch.2.2.2.2.2.2.2.2.2.2.2.1 t5.2.2.2.2.1, Res.row (Ty.arr .u8 20) 40 ch.2.2.2.2.2.2.2.2.2.2.2.2.1 ch.2.2.2.2.2.2.2.2.2.2.2.2.2.1 ch.2.2.2.2.2.2.2.2.2.2.2.2.2.2 t5.2.2.2.2.2]) (fun _ => rfl) N14 rfl rfl (fun ok => ok) (.cons .here (.cons .here (.cons .here (.cons .here (.cons .here (.cons .here (.cons .here (.cons .here .nil)))))))) rfl (state_State_Back.ok k ((t1.1), t4.2.1, t1.2.2.1, t4.2.2.2.1, t4.2.2.2.2.1, t4.2.2.2.2.2) t3 ch1.1 ch1.2.1 ch1.2.2.1 ch4.1 ch4.2.1 ch4.2.2.1 ch4.2.2.2.1 ch4.2.2.2.2.1 ch4.2.2.2.2.2.1 ch4.2.2.2.2.2.2.1 ch4.2.2.2.2.2.2.2.1 ch4.2.2.2.2.2.2.2.2.1 ch4.2.2.2.2.2.2.2.2.2.1 ch4.2.2.2.2.2.2.2.2.2.2.1 ch4.2.2.2.2.2.2.2.2.2.2.2.1 ch4.2.2.2.2.2.2.2.2.2.2.2.2 t5 et5 _ _) ?_; clear S a w; intro ch5 m le1 a w S
 refine c_end ?_
 refine c_region ?_
 refine s_move S rfl rfl ?_; clear S a; intro a S
 refine s_build S (ds := [(0, (.v (.int .u8 1)))]) (dv := (.agg [.ints .u8 [1, 0, 0, 0, 0, 0, 0, 0, 0, 0, 0, 0, 0, 0, 0, 0, 0, 0, 0, 0] 20])) rfl (fun _ => by kernel_rfl) ⟨rfl, trivial⟩ rfl ?_; clear S a; intro a S
 refine s_build S (ds := [(0, (.v (.int .u64 1)))]) (dv := (.agg [.ints .u64 [1, 0, 0, 0] 4])) rfl (fun _ => by kernel_rfl) ⟨rfl, trivial⟩ rfl ?_; clear S a; intro a S
 obtain ⟨t6, et6, h6⟩ := bind_of h5; clear h5
 refine s_callX S (ds' := [(.v (.pointer (some ⟨ch1.1, 0, none⟩))), (.agg [.ints .u8 [1, 0, 0, 0, 0, 0, 0, 0, 0, 0, 0, 0, 0, 0, 0, 0, 0, 0, 0, 0] 20]), (.agg [.ints .u64 [1, 0, 0, 0] 4])]) (ds := [(.v (.pointer (some ⟨ch1.1, 0, none⟩))), (.agg [.ints .u8 [1, 0, 0, 0, 0, 0, 0, 0, 0, 0, 0, 0, 0, 0, 0, 0, 0, 0, 0, 0] 20]), (.agg [.ints .u64 [1, 0, 0, 0] 4])]) [Res.cells ch1.1 79 [.rf (.iface 75 (.agg (cellsOf [.sl ch5.1 (t5.1).length ch5.2.1 (RdS Y71 ch5.1 t5.1)]).toArray)) (IfR [.sl ch5.1 (t5.1).length ch5.2.1 (RdS Y71 ch5.1 t5.1)]), .one (.map (some ch5.2.2.1)), .one (.int .i64 t5.2.2.1), .one (.slice ch5.2.2.2.2.2.2.1 ch5.2.2.2.2.2.2.2.1 ch5.2.2.2.2.2.2.2.2.1), .one (.slice ch5.2.2.2.2.2.2.2.2.2.1 ch5.2.2.2.2.2.2.2.2.2.2.1 ch5.2.2.2.2.2.2.2.2.2.2.2.1), .one (.slice ch5.2.2.2.2.2.2.2.2.2.2.2.2.1 ch5.2.2.2.2.2.2.2.2.2.2.2.2.2.1 ch5.2.2.2.2.2.2.2.2.2.2.2.2.2.2)], Res.map true (Ty.arr .u8 20) false (Ty.pid ch5.2.2.2.1) ch5.2.2.1 t5.2.1.1, Res.fam (Res.struct (YE110 ch5.2.2.2.2.1 ch5.2.2.2.2.2.1) 110) (one_struct _ _) ch5.2.2.2.1 [] t5.2.1.2.1, Res.fam (fun g_ kvs_ => Res.map true (Ty.arr .u64 4) true (Ty.arr .u64 4) g_ kvs_) (one_map true (Ty.arr .u64 4) true (Ty.arr .u64 4)) ch5.2.2.2.2.1 [] t5.2.1.2.2.1, Res.fam (fun g_ kvs_ => Res.map true (Ty.arr .u64 4) false Ty.bool g_ kvs_) (one_map true (Ty.arr .u64 4) false Ty.bool) ch5.2.2.2.2.2.1 [] t5.2.1.2.2.2, Res.row Y100 100 ch5.2.2.2.2.2.2.1 ch5.2.2.2.2.2.2.2.1 ch5.2.2.2.2.2.2.2.2.1 t5.2.2.2.1, Res.row (YC ch1.1 ch5.2.2.2.1 ch5.2.2.2.2.1 ch5.2.2.2.2.2.1) 1 ch5.2.2.2.2.2.2.2.2.2.1 ch5.2.2.2.2.2.2.2.2.2.2.1 ch5.2.2.2.2.2.2.2.2.2.2.2.1 t5.2.2.2.2.1, Res.row (Ty.arr .u8 20) 40 ch5.2.2.2.2.2.2.2.2.2.2.2.2.1 ch5.2.2.2.2.2.2.2.2.2.2.2.2.2.1 ch5.2.2.2.2.2.2.2.2.2.2.2.2.2.2 t5.2.2.2.2.2] [] (fun (ch : W6) => ((.agg [.ints .u64 t6.1 4]) : D)) (fun (ch : W6) => [Res.cells ch1.1 79 [.rf (.iface 75 (.agg (cellsOf [.sl ch5.1 (t5.1).length ch5.2.1 (RdS Y71 ch5.1 t5.1)]).toArray)) (IfR [.sl ch5.1 (t5.1).length ch5.2.1 (RdS Y71 ch5.1 t5.1)]), .one (.map (some ch.1)), .one (.int .i64 t5.2.2.1), .one (.slice ch.2.2.2.2.1 ch.2.2.2.2.2.1 ch.2.2.2.2.2.2.1), .one (.slice ch.2.2.2.2.2.2.2.1 ch.2.2.2.2.2.2.2.2.1 ch.2.2.2.2.2.2.2.2.2.1), .one (.slice ch.2.2.2.2.2.2.2.2.2.2.1 ch.2.2.2.2.2.2.2.2.2.2.2.1 ch.2.2.2.2.2.2.2.2.2.2.2.2)], Res.map true (Ty.arr .u8 20) false (Ty.pid ch.2.1) ch.1 t6.2.2.1.1, Res.fam (Res.struct (YE110 ch.2.2.1 ch.2.2.2.1) 110) (one_struct _ _) ch.2.1 [] t6.2.2.1.2.1, Res.fam (fun g_ kvs_ => Res.map true (Ty.arr .u64 4) true (Ty.arr .u64 4) g_ kvs_) (one_map true (Ty.arr .u64 4) true (Ty.arr .u64 4)) ch.2.2.1 [] t6.2.2.1.2.2.1, Res.fam (fun g_ kvs_ => Res.map true (Ty.arr .u64 4) false Ty.bool g_ kvs_) (one_map true (Ty.arr .u64 4) false Ty.bool) ch.2.2.2.1 [] t6.2.2.1.2.2.2, Res.row Y100 100 ch.2.2.2.2.1 ch.2.2.2.2.2.1 ch.2.2.2.2.2.2.1 t6.2.2.2.2.1, Res.row (YC ch1.1 ch.2.1 ch.2.2.1 ch.2.2.2.1) 1 ch.2.2.2.2.2.2.2.1 ch.2.2.2.2.2.2.2.2.1 ch.2.2.2.2.2.2.2.2.2.1 t6.2.2.2.2.2.1, Res.row (Ty.arr .u8 20) 40 ch.2.2.2.2.2.2.2.2.2.2.1 ch.2.2.2.2.2.2.2.2.2.2.2.1 ch.2.2.2.2.2.2.2.2.2.2.2.2 t6.2.2.2.2.2.2]) (fun (ch : W6) => [Res.cells ch1.1 79 [.rf (.iface 75 (.agg (cellsOf [.sl ch5.1 (t5.1).length ch5.2.1 (RdS Y71 ch5.1 t5.1)]).toArray)) (IfR [.sl ch5.1 (t5.1).length ch5.2.1 (RdS Y71 ch5.1 t5.1)]), .one (.map (some ch.1)), .one (.int .i64 t5.2.2.1), .one (.slice ch.2.2.2.2.1 ch.2.2.2.2.2.1 ch.2.2.2.2.2.2.1), .one (.slice ch.2.2.2.2.2.2.2.1 ch.2.2.2.2.2.2.2.2.1 ch.2.2.2.2.2.2.2.2.2.1), .one (.slice ch.2.2.2.2.2.2.2.2.2.2.1 ch.2.2.2.2.2.2.2.2.2.2.2.1 ch.2.2.2.2.2.2.2.2.2.2.2.2)], Res.map true (Ty.arr .u8 20) false (Ty.pid ch.2.1) ch.1 t6.2.2.1.1, Res.fam (Res.struct (YE110 ch.2.2.1 ch.2.2.2.1) 110) (one_struct _ _) ch.2.1 [] t6.2.2.1.2.1, Res.fam (fun g_ kvs_ => Res.map true (Ty.arr .u64 4) true (Ty.arr .u64 4) g_ kvs_) (one_map true (Ty.arr .u64 4) true (Ty.arr .u64 4)) ch.2.2.1 [] t6.2.2.1.2.2.1, Res.fam (fun g_ kvs_ => Res.map true (Ty.arr .u64 4) false Ty.bool g_ kvs_) (one_map true (Ty.arr .u64 4) false Ty.bool) ch.2.2.2.1 [] t6.2.2.1.2.2.2, Res.row Y100 100 ch.2.2.2.2.1 ch.2.2.2.2.2.1 ch.2.2.2.2.2.2.1 t6.2.2.2.2.1, Res.row (YC ch1.1 ch.2.1 ch.2.2.1 ch.2.2.2.1) 1 ch.2.2.2.2.2.2.2.1 ch.2.2.2.2.2.2.2.2.1 ch.2.2.2.2.2.2.2.2.2.1 t6.2.2.2.2.2.1, Res.row (Ty.arr .u8 20) 40 ch.2.2.2.2.2.2.2.2.2.2.1 ch.2.2.2.2.2.2.2.2.2.2.2.1 ch.2.2.2.2.2.2.2.2.2.2.2.2 t6.2.2.2.2.2.2]) (fun _ => rfl) N21 rfl rfl (fun ok => ok) (.cons .here (.cons .here (.cons .here (.cons .here (.cons .here (.cons .here (.cons .here (.cons .here .nil)))))))) rfl (state_State_Load.ok k ((t5.1), t5.2.1, t5.2.2.1, t5.2.2.2.1, t5.2.2.2.2.1, t5.2.2.2.2.2) [1, 0, 0, 0, 0, 0, 0, 0, 0, 0, 0, 0, 0, 0, 0, 0, 0, 0, 0, 0] [1, 0, 0, 0] ch1.1 ch5.1 ch5.2.1 ch5.2.2.1 ch5.2.2.2.1 ch5.2.2.2.2.1 ch5.2.2.2.2.2.1 ch5.2.2.2.2.2.2.1 ch5.2.2.2.2.2.2.2.1 ch5.2.2.2.2.2.2.2.2.1 ch5.2.2.2.2.2.2.2.2.2.1 ch5.2.2.2.2.2.2.2.2.2.2.1 ch5.2.2.2.2.2.2.2.2.2.2.2.1 ch5.2.2.2.2.2.2.2.2.2.2.2.2.1 ch5.2.2.2.2.2.2.2.2.2.2.2.2.2.1 ch5.2.2.2.2.2.2.2.2.2.2.2.2.2.2 t6 et6 _ _) ?_; clear S a w; intro ch6 m le1 a w S
 refine s_build S (ds := [(0, (.v (.int .u64 5)))]) (dv := (.agg [.ints .u64 [5, 0, 0, 0] 4])) rfl (fun _ => by kernel_rfl) ⟨rfl, trivial⟩ rfl ?_; clear S a; intro a S
 refine s_eqa S rfl rfl Tryz.underlying43 Tryz.underlying41 T41 Q43 rfl ?_; clear S a; intro a S
 refine s_assign S rfl rfl ?_; clear S a; intro a S
 refine c_end ?_
 refine wp_ret ?_
 obtain rfl := Option.some.inj h6
 exact b_ret1 (d := (.v (.bool (decide (t6.1 = [5, 0, 0, 0]))))) S rfl rfl fun ok => S.retX (Hx := []) hb _ _ (() : Unit) .nil ok
abbrev state_State_SetNonce_0nil.Ty : Type := (List Int) → Int → Option Unit
def state_State_SetNonce_0nil.Ctr (s : state_State_SetNonce_0nil.Ty) : Prop := ∀ (x1 : List Int) (x2 : Int) (r : Unit) (h0 : s x1 x2 = some r) (mi : Mem) (w0 : World), okL mi [(.v (.pointer none)), (.agg [.ints .u8 x1 20]), (.v (.int .u64 x2))] → Pre mi [] w0 → Calls Tryz.prog 35 (([(.v (.pointer none)), (.agg [.ints .u8 x1 20]), (.v (.int .u64 x2))] : List D).map D.val).toArray w0 (RetX mi [] (fun (ch : Unit) => ((.tup []) : D)) (fun (ch : Unit) => []) w0)
def state_State_SetNonce_0nil.f (x1 : List Int) (x2 : Int) : Option Unit := some ()
theorem state_State_SetNonce_0nil.ok : state_State_SetNonce_0nil.Ctr (state_State_SetNonce_0nil.f) := by
 intro x1 x2 r h0 mi w0 ok hm
 delta state_State_SetNonce_0nil.f at h0
 refine c_enterX (n := 26) [(.v (.pointer none)), (.agg [.ints .u8 x1 20]), (.v (.int .u64 x2))] (l := [(0, (.v (.pointer none))), (1, (.agg [.ints .u8 x1 20])), (2, (.v (.int .u64 x2)))]) Tryz.func35 rfl rfl rfl rfl ok hm ?_
 clear ok hm
 intro b0 hb a S
 refine c_region ?_
 refine s_box S rfl rfl rfl ?_; clear S a; intro g1 a w S
 refine c_end ?_
 refine wp_seq ?_
 refine c_region ?_
 refine s_move S rfl rfl ?_; clear S a; intro a S
 refine s_eqp S (b := true) rfl rfl Tryz.underlying26 rfl rfl ?_; clear S a; intro a S
 refine c_end ?_
 refine c_condT S rfl rfl ?_
 refine wp_ret ?_
 refine x_thenR ?_
 obtain rfl := Option.some.inj h0
 exact b_ret0 S rfl (S.retX (Hx := []) hb _ _ (() : Unit) .nil trivial)
abbrev smithyref14_State_Base.Ty : Type := ST37 → (List Int) → Option W18
def smithyref14_State_Base.Ctr (s : smithyref14_State_Base.Ty) : Prop := ∀ (x1 : ST37) (x2 : List Int) (ch_0_0 : (Option Addr × Nat) × (Option Addr × Nat) × (Option Addr × Nat) × (Option Addr × Nat) × Unit × (Option Addr × Nat) × Unit × (Option Addr × Nat)) (r : W18) (h0 : s x1 x2 = some r) (mi : Mem) (w0 : World), okL mi [(.agg [.sl ch_0_0.1.1 ((ST37.un x1).1).length ch_0_0.1.2 (RdS Y71 ch_0_0.1.1 ((ST37.un x1).1)), .sl ch_0_0.2.1.1 ((ST37.un x1).2.1).length ch_0_0.2.1.2 (RdS Y122 ch_0_0.2.1.1 ((ST37.un x1).2.1)), .sl ch_0_0.2.2.1.1 ((ST37.un x1).2.2.1).length ch_0_0.2.2.1.2 (RdS (Ty.arr .u8 20) ch_0_0.2.2.1.1 ((ST37.un x1).2.2.1)), .sl ch_0_0.2.2.2.1.1 ((ST37.un x1).2.2.2.1).length ch_0_0.2.2.2.1.2 (RdS Y133 ch_0_0.2.2.2.1.1 ((ST37.un x1).2.2.2.1)), .one (.int .i64 ((ST37.un x1).2.2.2.2.1)), .sl ch_0_0.2.2.2.2.2.1.1 ((ST37.un x1).2.2.2.2.2.1).length ch_0_0.2.2.2.2.2.1.2 (RdS Y100 ch_0_0.2.2.2.2.2.1.1 ((ST37.un x1).2.2.2.2.2.1)), .one (.bool ((ST37.un x1).2.2.2.2.2.2.1)), .sl ch_0_0.2.2.2.2.2.2.2.1 ((ST37.un x1).2.2.2.2.2.2.2).length ch_0_0.2.2.2.2.2.2.2.2 (SR37 ch_0_0.2.2.2.2.2.2.2.1 ((ST37.un x1).2.2.2.2.2.2.2))]), (.agg [.ints .u8 x2 20])] → Pre mi [] w0 → Calls Tryz.prog 87 (([(.agg [.sl ch_0_0.1.1 ((ST37.un x1).1).length ch_0_0.1.2 (RdS Y71 ch_0_0.1.1 ((ST37.un x1).1)), .sl ch_0_0.2.1.1 ((ST37.un x1).2.1).length ch_0_0.2.1.2 (RdS Y122 ch_0_0.2.1.1 ((ST37.un x1).2.1)), .sl ch_0_0.2.2.1.1 ((ST37.un x1).2.2.1).length ch_0_0.2.2.1.2 (RdS (Ty.arr .u8 20) ch_0_0.2.2.1.1 ((ST37.un x1).2.2.1)), .sl ch_0_0.2.2.2.1.1 ((ST37.un x1).2.2.2.1).length ch_0_0.2.2.2.1.2 (RdS Y133 ch_0_0.2.2.2.1.1 ((ST37.un x1).2.2.2.1)), .one (.int .i64 ((ST37.un x1).2.2.2.2.1)), .sl ch_0_0.2.2.2.2.2.1.1 ((ST37.un x1).2.2.2.2.2.1).length ch_0_0.2.2.2.2.2.1.2 (RdS Y100 ch_0_0.2.2.2.2.2.1.1 ((ST37.un x1).2.2.2.2.2.1)), .one (.bool ((ST37.un x1).2.2.2.2.2.2.1)), .sl ch_0_0.2.2.2.2.2.2.2.1 ((ST37.un x1).2.2.2.2.2.2.2).length ch_0_0.2.2.2.2.2.2.2.2 (SR37 ch_0_0.2.2.2.2.2.2.2.1 ((ST37.un x1).2.2.2.2.2.2.2))]), (.agg [.ints .u8 x2 20])] : List D).map D.val).toArray w0 (RetX mi [] (fun (ch : W4) => ((.agg (Y71.segs r ((), (), (), (ch.1, ch.2.1), (ch.2.2.1, ch.2.2.2)))) : D)) (fun (ch : W4) => []) w0)
def smithyref14_State_Base.j1 (x2 : List Int) : Option W18 := some (x2, 0, [0, 0, 0, 0], ([] : List Int), ([] : List ((List Int) × (List Int))))
def smithyref14_State_Base.b1 (x1 : ST37) (x2 : List Int) (rec1 : Int → Option W18) (y1 : Int) : Option W18 := if (decide (y1 < (((ST37.un x1).1).length : Int))) = true then (if (0 : Int) ≤ y1 ∧ y1 < (((ST37.un x1).1).length : Int) then (if (decide ((gt ((ST37.un x1).1) y1).1 = x2)) = true then (some (gt ((ST37.un x1).1) y1)) else (rec1 (wr .i64 (y1 + 1)))) else none) else (smithyref14_State_Base.j1 x2)
def smithyref14_State_Base.l1 (x1 : ST37) (x2 : List Int) : Nat → Int → Option W18
  | 0, _ => none
  | q + 1, y1 => smithyref14_State_Base.b1 x1 x2 (smithyref14_State_Base.l1 x1 x2 q) y1
def smithyref14_State_Base.f (k : Nat) (x1 : ST37) (x2 : List Int) : Option W18 := smithyref14_State_Base.l1 x1 x2 k 0
theorem smithyref14_State_Base.ok (k : Nat) : smithyref14_State_Base.Ctr (smithyref14_State_Base.f k) := by
 intro x1 x2 ch_0_0 r h0 mi w0 ok hm
 delta smithyref14_State_Base.f at h0
 refine c_enterX (n := 28) [(.agg [.sl ch_0_0.1.1 ((ST37.un x1).1).length ch_0_0.1.2 (RdS Y71 ch_0_0.1.1 ((ST37.un x1).1)), .sl ch_0_0.2.1.1 ((ST37.un x1).2.1).length ch_0_0.2.1.2 (RdS Y122 ch_0_0.2.1.1 ((ST37.un x1).2.1)), .sl ch_0_0.2.2.1.1 ((ST37.un x1).2.2.1).length ch_0_0.2.2.1.2 (RdS (Ty.arr .u8 20) ch_0_0.2.2.1.1 ((ST37.un x1).2.2.1)), .sl ch_0_0.2.2.2.1.1 ((ST37.un x1).2.2.2.1).length ch_0_0.2.2.2.1.2 (RdS Y133 ch_0_0.2.2.2.1.1 ((ST37.un x1).2.2.2.1)), .one (.int .i64 ((ST37.un x1).2.2.2.2.1)), .sl ch_0_0.2.2.2.2.2.1.1 ((ST37.un x1).2.2.2.2.2.1).length ch_0_0.2.2.2.2.2.1.2 (RdS Y100 ch_0_0.2.2.2.2.2.1.1 ((ST37.un x1).2.2.2.2.2.1)), .one (.bool ((ST37.un x1).2.2.2.2.2.2.1)), .sl ch_0_0.2.2.2.2.2.2.2.1 ((ST37.un x1).2.2.2.2.2.2.2).length ch_0_0.2.2.2.2.2.2.2.2 (SR37 ch_0_0.2.2.2.2.2.2.2.1 ((ST37.un x1).2.2.2.2.2.2.2))]), (.agg [.ints .u8 x2 20])] (l := [(0, (.agg [.sl ch_0_0.1.1 ((ST37.un x1).1).length ch_0_0.1.2 (RdS Y71 ch_0_0.1.1 ((ST37.un x1).1)), .sl ch_0_0.2.1.1 ((ST37.un x1).2.1).length ch_0_0.2.1.2 (RdS Y122 ch_0_0.2.1.1 ((ST37.un x1).2.1)), .sl ch_0_0.2.2.1.1 ((ST37.un x1).2.2.1).length ch_0_0.2.2.1.2 (RdS (Ty.arr .u8 20) ch_0_0.2.2.1.1 ((ST37.un x1).2.2.1)), .sl ch_0_0.2.2.2.1.1 ((ST37.un x1).2.2.2.1).length ch_0_0.2.2.2.1.2 (RdS Y133 ch_0_0.2.2.2.1.1 ((ST37.un x1).2.2.2.1)), .one (.int .i64 ((ST37.un x1).2.2.2.2.1)), .sl ch_0_0.2.2.2.2.2.1.1 ((ST37.un x1).2.2.2.2.2.1).length ch_0_0.2.2.2.2.2.1.2 (RdS Y100 ch_0_0.2.2.2.2.2.1.1 ((ST37.un x1).2.2.2.2.2.1)), .one (.bool ((ST37.un x1).2.2.2.2.2.2.1)), .sl ch_0_0.2.2.2.2.2.2.2.1 ((ST37.un x1).2.2.2.2.2.2.2).length ch_0_0.2.2.2.2.2.2.2.2 (SR37 ch_0_0.2.2.2.2.2.2.2.1 ((ST37.un x1).2.2.2.2.2.2.2))])), (1, (.agg [.ints .u8 x2 20]))]) Tryz.func87 rfl rfl rfl rfl ok hm ?_
 clear ok hm
 intro b0 hb a S
 refine c_region ?_
 refine s_box S rfl rfl rfl ?_; clear S a; intro g1 a w S
 refine s_box S rfl rfl rfl ?_; clear S a w; intro g2 a w S
 refine s_alloc S Z71 rfl ⟨rfl, rfl, rfl, rfl, rfl, trivial⟩ rfl ?_; clear S a w; intro g3 a w S
 refine c_end ?_
 refine wp_seq_k ?_
 intro K1 hK1
 have j1 : ∀ (m : Mem) (g13 : Nat) (g14 : Nat) (a : Act) (w : World), St 28 m b0 [(4, (.v (.pointer (some ⟨g13, 0, none⟩)))), (3, (.v (.pointer (some ⟨g14, 0, none⟩))))] [Res.cells g13 71 [.ints .u8 [0, 0, 0, 0, 0, 0, 0, 0, 0, 0, 0, 0, 0, 0, 0, 0, 0, 0, 0, 0] 20, .one (.int .u64 0), .ints .u64 [0, 0, 0, 0] 4, .one (.slice none 0 0), .one (.slice none 0 0)], Res.cells g14 40 [.ints .u8 x2 20]] a w → smithyref14_State_Base.j1 x2 = some r → K1 a w := by
  intro m g13 g14 a w S h0
  delta smithyref14_State_Base.j1 at h0
  refine hK1 a w ?_
  refine c_region ?_
  refine s_loada S rfl (.there .here) T40 (s' := [.ints .u8 x2 20]) rfl rfl ?_; clear S a; intro a S
  refine s_bldS S (ds := [(0, (.agg [.ints .u8 x2 20]))]) (zs := [.ints .u8 [0, 0, 0, 0, 0, 0, 0, 0, 0, 0, 0, 0, 0, 0, 0, 0, 0, 0, 0, 0] 20, .one (.int .u64 0), .ints .u64 [0, 0, 0, 0] 4, .one (.slice none 0 0), .one (.slice none 0 0)]) (s' := [.ints .u8 x2 20, .one (.int .u64 0), .ints .u64 [0, 0, 0, 0] 4, .one (.slice none 0 0), .one (.slice none 0 0)]) rfl Tryz.underlying71 P71 Z71 ⟨rfl, rfl, rfl, rfl, rfl, trivial⟩ rfl rfl ?_; clear S a; intro a S
  refine s_store S rfl rfl rfl (s' := [.ints .u8 x2 20, .one (.int .u64 0), .ints .u64 [0, 0, 0, 0] 4, .one (.slice none 0 0), .one (.slice none 0 0)]) .here T71 rfl rfl ?_; clear S w; intro w S
  refine c_end ?_
  refine wp_ret ?_
  replace S := S.cellro (s' := [.ints .u8 x2 20, .one (.int .u64 0), .ints .u64 [0, 0, 0, 0] 4, .sl none (([] : List Int)).length 0 (RdS (Ty.int .u8) none ([] : List Int)), .one (.slice none 0 0)]) .here rfl (fun h => ⟨h.1, h.2.1, h.2.2.1, ok_nil, h.2.2.2.2.1, trivial⟩)
  replace S := S.cellro (s' := [.ints .u8 x2 20, .one (.int .u64 0), .ints .u64 [0, 0, 0, 0] 4, .sl none (([] : List Int)).length 0 (RdS (Ty.int .u8) none ([] : List Int)), .sl none (([] : List ((List Int) × (List Int)))).length 0 (RdS Y83 none ([] : List ((List Int) × (List Int))))]) .here rfl (fun h => ⟨h.1, h.2.1, h.2.2.1, h.2.2.2.1, ok_nil, trivial⟩)
  obtain rfl := Option.some.inj h0
  exact b_ret1 (d := (.agg [.ints .u8 x2 20, .one (.int .u64 0), .ints .u64 [0, 0, 0, 0] 4, .sl none (([] : List Int)).length 0 (RdS (Ty.int .u8) none ([] : List Int)), .sl none (([] : List ((List Int) × (List Int)))).length 0 (RdS Y83 none ([] : List ((List Int) × (List Int))))])) S rfl (resD_cell rfl .here T71 rfl rfl) fun ok => S.retX (Hx := []) hb _ _ ((none, 0, none, 0) : W4) .nil ok
 refine c_region ?_
 refine s_fieldAddr S rfl I37_0 T22 (by decide) rfl rfl ?_; clear S a; intro a S
 refine s_loadSl S rfl (.there (.there .here)) T22 (A := ch_0_0.1.1) (len := ((ST37.un x1).1).length) (cap := ch_0_0.1.2) rfl rfl ?_; clear S a; intro a S
 refine s_lenS S rfl Tryz.underlying22 rfl ?_; clear S a; intro a S
 refine s_move S rfl rfl ?_; clear S a; intro a S
 refine c_end ?_
 refine wp_block ?_
 refine c_loop (fun q1 a w => ∃ (m : Mem) (y1 : Int) (g21 : Nat) (g22 : Nat) (g23 : Nat), St 28 m b0 [(9, (.v (.int .i64 y1))), (8, (.v (.int .i64 (((ST37.un x1).1).length : Int)))), (4, (.v (.pointer (some ⟨g21, 0, none⟩)))), (3, (.v (.pointer (some ⟨g22, 0, none⟩)))), (2, (.v (.pointer (some ⟨g23, 0, none⟩))))] [Res.cells g21 71 [.ints .u8 [0, 0, 0, 0, 0, 0, 0, 0, 0, 0, 0, 0, 0, 0, 0, 0, 0, 0, 0, 0] 20, .one (.int .u64 0), .ints .u64 [0, 0, 0, 0] 4, .one (.slice none 0 0), .one (.slice none 0 0)], Res.cells g22 40 [.ints .u8 x2 20], Res.cells g23 37 [.sl ch_0_0.1.1 ((ST37.un x1).1).length ch_0_0.1.2 (RdS Y71 ch_0_0.1.1 ((ST37.un x1).1)), .sl ch_0_0.2.1.1 ((ST37.un x1).2.1).length ch_0_0.2.1.2 (RdS Y122 ch_0_0.2.1.1 ((ST37.un x1).2.1)), .sl ch_0_0.2.2.1.1 ((ST37.un x1).2.2.1).length ch_0_0.2.2.1.2 (RdS (Ty.arr .u8 20) ch_0_0.2.2.1.1 ((ST37.un x1).2.2.1)), .sl ch_0_0.2.2.2.1.1 ((ST37.un x1).2.2.2.1).length ch_0_0.2.2.2.1.2 (RdS Y133 ch_0_0.2.2.2.1.1 ((ST37.un x1).2.2.2.1)), .one (.int .i64 ((ST37.un x1).2.2.2.2.1)), .sl ch_0_0.2.2.2.2.2.1.1 ((ST37.un x1).2.2.2.2.2.1).length ch_0_0.2.2.2.2.2.1.2 (RdS Y100 ch_0_0.2.2.2.2.2.1.1 ((ST37.un x1).2.2.2.2.2.1)), .one (.bool ((ST37.un x1).2.2.2.2.2.2.1)), .sl ch_0_0.2.2.2.2.2.2.2.1 ((ST37.un x1).2.2.2.2.2.2.2).length ch_0_0.2.2.2.2.2.2.2.2 (SR37 ch_0_0.2.2.2.2.2.2.2.1 ((ST37.un x1).2.2.2.2.2.2.2))]] a w ∧ smithyref14_State_Base.l1 x1 x2 q1 y1 = some r) ?_ ?_ (k := k) ⟨_, 0, g3, g2, g1, (S.sub (subR rfl) (.cons .here (.cons .here (.cons .here .nil)))), h0⟩
 ·rintro a w ⟨m, y1, g21, g22, g23, S, h0⟩
  exact (nomatch (show (none : Option W18) = some r from h0))
 ·clear S h0
  rintro q1 a w ⟨m, y1, g21, g22, g23, S, h0⟩
  replace h0 : smithyref14_State_Base.b1 x1 x2 (smithyref14_State_Base.l1 x1 x2 q1) y1 = some r := h0
  delta smithyref14_State_Base.b1 at h0
  refine c_region ?_
  refine s_bin S rfl rfl rfl rfl ?_; clear S a; intro a S
  refine c_end ?_
  refine wp_seq ?_
  rcases ite_of h0 with ⟨c1, h1⟩ | ⟨c1, h1⟩ <;> clear h0
  ·refine c_condT S rfl c1 ?_
   refine wp_skip ?_
   refine x_thenN ?_
   refine wp_seq ?_
   refine wp_block ?_
   refine c_region ?_
   refine s_move S rfl rfl ?_; clear S a; intro a S
   refine s_assign S rfl rfl ?_; clear S a; intro a S
   refine c_end ?_
   refine wp_seq (c_heldS S (.take 0 (.take 1 (.take 2 (.take 3 (.take 4 (.take 5 (.take 6 (.take 7 .done)))))))) 8 [Res.cells g21 71 [.ints .u8 [0, 0, 0, 0, 0, 0, 0, 0, 0, 0, 0, 0, 0, 0, 0, 0, 0, 0, 0, 0] 20, .one (.int .u64 0), .ints .u64 [0, 0, 0, 0] 4, .one (.slice none 0 0), .one (.slice none 0 0)], Res.cells g22 40 [.ints .u8 x2 20], Res.cells g23 37 [.sl ch_0_0.1.1 ((ST37.un x1).1).length ch_0_0.1.2 (RdS Y71 ch_0_0.1.1 ((ST37.un x1).1)), .sl ch_0_0.2.1.1 ((ST37.un x1).2.1).length ch_0_0.2.1.2 (RdS Y122 ch_0_0.2.1.1 ((ST37.un x1).2.1)), .sl ch_0_0.2.2.1.1 ((ST37.un x1).2.2.1).length ch_0_0.2.2.1.2 (RdS (Ty.arr .u8 20) ch_0_0.2.2.1.1 ((ST37.un x1).2.2.1)), .sl ch_0_0.2.2.2.1.1 ((ST37.un x1).2.2.2.1).length ch_0_0.2.2.2.1.2 (RdS Y133 ch_0_0.2.2.2.1.1 ((ST37.un x1).2.2.2.1)), .one (.int .i64 ((ST37.un x1).2.2.2.2.1)), .sl ch_0_0.2.2.2.2.2.1.1 ((ST37.un x1).2.2.2.2.2.1).length ch_0_0.2.2.2.2.2.1.2 (RdS Y100 ch_0_0.2.2.2.2.2.1.1 ((ST37.un x1).2.2.2.2.2.1)), .one (.bool ((ST37.un x1).2.2.2.2.2.2.1)), .sl ch_0_0.2.2.2.2.2.2.2.1 ((ST37.un x1).2.2.2.2.2.2.2).length ch_0_0.2.2.2.2.2.2.2.2 (SR37 ch_0_0.2.2.2.2.2.2.2.1 ((ST37.un x1).2.2.2.2.2.2.2))]] (.cons .here (.cons .here (.cons .here .nil))) ⟨Res.stay_cells, Res.stay_cells, Res.stay_cells, trivial⟩ [(5, (.v (.int .i64 y1))), (3, (.v (.pointer (some ⟨g22, 0, none⟩)))), (2, (.v (.pointer (some ⟨g23, 0, none⟩))))] (subR rfl) (by kernel_rfl) (by kernel_rfl) ?_); clear S; intro w S CL hw le
   refine h_fieldAddr S CL hw le (subR rfl) rfl I37_0 T22 (by decide) rfl rfl rfl trivial ?_; clear S CL a; intro a S CL
   refine h_loadSl S CL hw le (subR rfl) rfl (.there (.there .here)) T22 (A := ch_0_0.1.1) (len := ((ST37.un x1).1).length) (cap := ch_0_0.1.2) rfl rfl rfl trivial ?_; clear S CL a; intro a S CL
   refine h_move S CL hw le (subR rfl) rfl rfl rfl trivial ?_; clear S CL a; intro a S CL
   obtain ⟨c2, h2⟩ := chk_of h1; clear h1
   refine h_iaddrS S CL hw le (subR rfl) rfl rfl rfl Tryz.underlying22 T71 c2.1 c2.2 rfl rfl trivial ?_; clear S CL a; intro p1 a S CL
   refine h_faddrP S CL hw le (subR rfl) (tF := (Ty.arr .u8 20)) (y := (gt ((ST37.un x1).1) y1).1) rfl I71_0 T40 (by decide) (fun m h => (at_fst (at_0 h))) rfl rfl trivial ?_; clear S CL a; intro a S CL
   refine h_ldA S CL hw le (subR rfl) (fun (c : Unit) => [.ints .u8 ((gt ((ST37.un x1).1) y1).1) 20]) rfl T40 (fun _ => rfl) rfl rfl trivial ?_; clear S CL a; intro ch1 a S CL
   refine h_loada S CL hw le (subR rfl) rfl (.there .here) T40 (s' := [.ints .u8 x2 20]) rfl rfl rfl trivial ?_; clear S CL a; intro a S CL
   refine h_eqa S CL hw le (subR rfl) rfl rfl Tryz.underlying40 Tryz.underlying5 T5 Q40 rfl rfl trivial ?_; clear S CL a; intro a S CL
   refine h_done ?_; clear CL hw le
   refine x_thenN ?_
   rcases ite_of h2 with ⟨c3, h3⟩ | ⟨c3, h3⟩ <;> clear h2
   ·refine c_condT S rfl c3 ?_
    refine c_region ?_
    refine s_fieldAddr S rfl I37_0 T22 (by decide) rfl rfl ?_; clear S a; intro a S
    refine s_loadSl S rfl (.there (.there .here)) T22 (A := ch_0_0.1.1) (len := ((ST37.un x1).1).length) (cap := ch_0_0.1.2) rfl rfl ?_; clear S a; intro a S
    refine s_move S rfl rfl ?_; clear S a; intro a S
    refine s_iaddrS S rfl rfl rfl Tryz.underlying22 T71 c2.1 c2.2 rfl ?_; clear S a; intro p2 a S
    refine s_ldA S (fun (c : Unit × Unit × Unit × (Option Addr × Nat) × (Option Addr × Nat)) => (Y71.segs (gt ((ST37.un x1).1) y1) c)) rfl T71 (fun _ => rfl) rfl ?_; clear S a; intro ch2 a S
    refine s_store S rfl rfl rfl (s' := [.ints .u8 ((gt ((ST37.un x1).1) y1).1) 20, .one (.int .u64 ((gt ((ST37.un x1).1) y1).2.1)), .ints .u64 ((gt ((ST37.un x1).1) y1).2.2.1) 4, .sl ch2.2.2.2.1.1 ((gt ((ST37.un x1).1) y1).2.2.2.1).length ch2.2.2.2.1.2 (RdS (Ty.int .u8) ch2.2.2.2.1.1 ((gt ((ST37.un x1).1) y1).2.2.2.1)), .sl ch2.2.2.2.2.1 ((gt ((ST37.un x1).1) y1).2.2.2.2).length ch2.2.2.2.2.2 (RdS Y83 ch2.2.2.2.2.1 ((gt ((ST37.un x1).1) y1).2.2.2.2))]) .here T71 rfl rfl ?_; clear S w; intro w S
    refine c_end ?_
    refine wp_ret ?_
    refine x_blockR ?_
    refine x_thenR ?_
    refine x_thenR ?_
    refine x_blockR ?_
    refine x_thenR ?_
    obtain rfl := Option.some.inj h3
    exact b_ret1 (d := (.agg (Y71.segs (gt ((ST37.un x1).1) y1) ch2))) S rfl (resD_cell rfl .here T71 rfl rfl) fun ok => S.retX (Hx := []) hb _ _ ((ch2.2.2.2.1.1, ch2.2.2.2.1.2, ch2.2.2.2.2.1, ch2.2.2.2.2.2) : W4) .nil ok
   ·refine c_condF S rfl c3 ?_
    refine wp_skip ?_
    refine x_blockN ?_
    refine x_thenN ?_
    refine c_region' ?_
    refine s_bin S rfl rfl rfl rfl ?_; clear S a; intro a S
    refine s_move S rfl rfl ?_; clear S a; intro a S
    refine c_end' ?_
    refine x_thenN ?_
    exact ⟨_, (wr .i64 (y1 + 1)), g21, g22, g23, (S.sub (subR rfl) (.cons .here (.cons .here (.cons .here .nil)))), h3⟩
  ·refine c_condF S rfl c1 ?_
   refine wp_exit ?_
   refine x_thenX ?_
   refine x_thenX ?_
   refine x_blockX ?_
   refine x_thenN ?_
   exact j1 _ g21 g22 a w (S.sub (subR rfl) (.cons .here (.cons .here .nil))) h1
abbrev smithyref14_State_At.Ty : Type := ST37 → (List Int) → Option W20
def smithyref14_State_At.Ctr (s : smithyref14_State_At.Ty) : Prop := ∀ (x1 : ST37) (x2 : List Int) (ch_0_0 : (Option Addr × Nat) × (Option Addr × Nat) × (Option Addr × Nat) × (Option Addr × Nat) × Unit × (Option Addr × Nat) × Unit × (Option Addr × Nat)) (r : W20) (h0 : s x1 x2 = some r) (mi : Mem) (w0 : World), okL mi [(.agg [.sl ch_0_0.1.1 ((ST37.un x1).1).length ch_0_0.1.2 (RdS Y71 ch_0_0.1.1 ((ST37.un x1).1)), .sl ch_0_0.2.1.1 ((ST37.un x1).2.1).length ch_0_0.2.1.2 (RdS Y122 ch_0_0.2.1.1 ((ST37.un x1).2.1)), .sl ch_0_0.2.2.1.1 ((ST37.un x1).2.2.1).length ch_0_0.2.2.1.2 (RdS (Ty.arr .u8 20) ch_0_0.2.2.1.1 ((ST37.un x1).2.2.1)), .sl ch_0_0.2.2.2.1.1 ((ST37.un x1).2.2.2.1).length ch_0_0.2.2.2.1.2 (RdS Y133 ch_0_0.2.2.2.1.1 ((ST37.un x1).2.2.2.1)), .one (.int .i64 ((ST37.un x1).2.2.2.2.1)), .sl ch_0_0.2.2.2.2.2.1.1 ((ST37.un x1).2.2.2.2.2.1).length ch_0_0.2.2.2.2.2.1.2 (RdS Y100 ch_0_0.2.2.2.2.2.1.1 ((ST37.un x1).2.2.2.2.2.1)), .one (.bool ((ST37.un x1).2.2.2.2.2.2.1)), .sl ch_0_0.2.2.2.2.2.2.2.1 ((ST37.un x1).2.2.2.2.2.2.2).length ch_0_0.2.2.2.2.2.2.2.2 (SR37 ch_0_0.2.2.2.2.2.2.2.1 ((ST37.un x1).2.2.2.2.2.2.2))]), (.agg [.ints .u8 x2 20])] → Pre mi [] w0 → Calls Tryz.prog 64 (([(.agg [.sl ch_0_0.1.1 ((ST37.un x1).1).length ch_0_0.1.2 (RdS Y71 ch_0_0.1.1 ((ST37.un x1).1)), .sl ch_0_0.2.1.1 ((ST37.un x1).2.1).length ch_0_0.2.1.2 (RdS Y122 ch_0_0.2.1.1 ((ST37.un x1).2.1)), .sl ch_0_0.2.2.1.1 ((ST37.un x1).2.2.1).length ch_0_0.2.2.1.2 (RdS (Ty.arr .u8 20) ch_0_0.2.2.1.1 ((ST37.un x1).2.2.1)), .sl ch_0_0.2.2.2.1.1 ((ST37.un x1).2.2.2.1).length ch_0_0.2.2.2.1.2 (RdS Y133 ch_0_0.2.2.2.1.1 ((ST37.un x1).2.2.2.1)), .one (.int .i64 ((ST37.un x1).2.2.2.2.1)), .sl ch_0_0.2.2.2.2.2.1.1 ((ST37.un x1).2.2.2.2.2.1).length ch_0_0.2.2.2.2.2.1.2 (RdS Y100 ch_0_0.2.2.2.2.2.1.1 ((ST37.un x1).2.2.2.2.2.1)), .one (.bool ((ST37.un x1).2.2.2.2.2.2.1)), .sl ch_0_0.2.2.2.2.2.2.2.1 ((ST37.un x1).2.2.2.2.2.2.2).length ch_0_0.2.2.2.2.2.2.2.2 (SR37 ch_0_0.2.2.2.2.2.2.2.1 ((ST37.un x1).2.2.2.2.2.2.2))]), (.agg [.ints .u8 x2 20])] : List D).map D.val).toArray w0 (RetX mi [] (fun (ch : W4) => ((.agg (Y122.segs r (((), (), (), (ch.1, ch.2.1), (ch.2.2.1, ch.2.2.2)), (), ()))) : D)) (fun (ch : W4) => []) w0)
def smithyref14_State_At.j1 (k : Nat) (x1 : ST37) (x2 : List Int) : Option W20 := (smithyref14_State_Base.f k x1 x2).bind fun t1 => (some (t1, false, false))
def smithyref14_State_At.b1 (k : Nat) (x1 : ST37) (x2 : List Int) (rec1 : Int → Option W20) (y1 : Int) : Option W20 := if (decide (y1 < (((ST37.un x1).2.1).length : Int))) = true then (if (0 : Int) ≤ y1 ∧ y1 < (((ST37.un x1).2.1).length : Int) then (if (decide (((gt ((ST37.un x1).2.1) y1).1).1 = x2)) = true then (some (gt ((ST37.un x1).2.1) y1)) else (rec1 (wr .i64 (y1 + 1)))) else none) else (smithyref14_State_At.j1 k x1 x2)
def smithyref14_State_At.l1 (k : Nat) (x1 : ST37) (x2 : List Int) : Nat → Int → Option W20
  | 0, _ => none
  | q + 1, y1 => smithyref14_State_At.b1 k x1 x2 (smithyref14_State_At.l1 k x1 x2 q) y1
def smithyref14_State_At.f (k : Nat) (x1 : ST37) (x2 : List Int) : Option W20 := smithyref14_State_At.l1 k x1 x2 k 0
theorem smithyref14_State_At.ok (k : Nat) : smithyref14_State_At.Ctr (smithyref14_State_At.f k) := by
 intro x1 x2 ch_0_0 r h0 mi w0 ok hm
 delta smithyref14_State_At.f at h0
 refine c_enterX (n := 31) [(.agg [.sl ch_0_0.1.1 ((ST37.un x1).1).length ch_0_0.1.2 (RdS Y71 ch_0_0.1.1 ((ST37.un x1).1)), .sl ch_0_0.2.1.1 ((ST37.un x1).2.1).length ch_0_0.2.1.2 (RdS Y122 ch_0_0.2.1.1 ((ST37.un x1).2.1)), .sl ch_0_0.2.2.1.1 ((ST37.un x1).2.2.1).length ch_0_0.2.2.1.2 (RdS (Ty.arr .u8 20) ch_0_0.2.2.1.1 ((ST37.un x1).2.2.1)), .sl ch_0_0.2.2.2.1.1 ((ST37.un x1).2.2.2.1).length ch_0_0.2.2.2.1.2 (RdS Y133 ch_0_0.2.2.2.1.1 ((ST37.un x1).2.2.2.1)), .one (.int .i64 ((ST37.un x1).2.2.2.2.1)), .sl ch_0_0.2.2.2.2.2.1.1 ((ST37.un x1).2.2.2.2.2.1).length ch_0_0.2.2.2.2.2.1.2 (RdS Y100 ch_0_0.2.2.2.2.2.1.1 ((ST37.un x1).2.2.2.2.2.1)), .one (.bool ((ST37.un x1).2.2.2.2.2.2.1)), .sl ch_0_0.2.2.2.2.2.2.2.1 ((ST37.un x1).2.2.2.2.2.2.2).length ch_0_0.2.2.2.2.2.2.2.2 (SR37 ch_0_0.2.2.2.2.2.2.2.1 ((ST37.un x1).2.2.2.2.2.2.2))]), (.agg [.ints .u8 x2 20])] (l := [(0, (.agg [.sl ch_0_0.1.1 ((ST37.un x1).1).length ch_0_0.1.2 (RdS Y71 ch_0_0.1.1 ((ST37.un x1).1)), .sl ch_0_0.2.1.1 ((ST37.un x1).2.1).length ch_0_0.2.1.2 (RdS Y122 ch_0_0.2.1.1 ((ST37.un x1).2.1)), .sl ch_0_0.2.2.1.1 ((ST37.un x1).2.2.1).length ch_0_0.2.2.1.2 (RdS (Ty.arr .u8 20) ch_0_0.2.2.1.1 ((ST37.un x1).2.2.1)), .sl ch_0_0.2.2.2.1.1 ((ST37.un x1).2.2.2.1).length ch_0_0.2.2.2.1.2 (RdS Y133 ch_0_0.2.2.2.1.1 ((ST37.un x1).2.2.2.1)), .one (.int .i64 ((ST37.un x1).2.2.2.2.1)), .sl ch_0_0.2.2.2.2.2.1.1 ((ST37.un x1).2.2.2.2.2.1).length ch_0_0.2.2.2.2.2.1.2 (RdS Y100 ch_0_0.2.2.2.2.2.1.1 ((ST37.un x1).2.2.2.2.2.1)), .one (.bool ((ST37.un x1).2.2.2.2.2.2.1)), .sl ch_0_0.2.2.2.2.2.2.2.1 ((ST37.un x1).2.2.2.2.2.2.2).length ch_0_0.2.2.2.2.2.2.2.2 (SR37 ch_0_0.2.2.2.2.2.2.2.1 ((ST37.un x1).2.2.2.2.2.2.2))])), (1, (.agg [.ints .u8 x2 20]))]) Tryz.func64 rfl rfl rfl rfl ok hm ?_
 clear ok hm
 intro b0 hb a S
 refine c_region ?_
 refine s_box S rfl rfl rfl ?_; clear S a; intro g1 a w S
 refine s_box S rfl rfl rfl ?_; clear S a w; intro g2 a w S
 refine s_alloc S Z122 rfl ⟨rfl, rfl, rfl, rfl, rfl, rfl, rfl, trivial⟩ rfl ?_; clear S a w; intro g3 a w S
 refine c_end ?_
 refine wp_seq_k ?_
 intro K1 hK1
 have j1 : ∀ (m : Mem) (g13 : Nat) (g14 : Nat) (g15 : Nat) (a : Act) (w : World), St 31 m b0 [(4, (.v (.pointer (some ⟨g13, 0, none⟩)))), (3, (.v (.pointer (some ⟨g14, 0, none⟩)))), (2, (.v (.pointer (some ⟨g15, 0, none⟩))))] [Res.cells g13 122 [.ints .u8 [0, 0, 0, 0, 0, 0, 0, 0, 0, 0, 0, 0, 0, 0, 0, 0, 0, 0, 0, 0] 20, .one (.int .u64 0), .ints .u64 [0, 0, 0, 0] 4, .one (.slice none 0 0), .one (.slice none 0 0), .one (.bool false), .one (.bool false)], Res.cells g14 40 [.ints .u8 x2 20], Res.cells g15 37 [.sl ch_0_0.1.1 ((ST37.un x1).1).length ch_0_0.1.2 (RdS Y71 ch_0_0.1.1 ((ST37.un x1).1)), .sl ch_0_0.2.1.1 ((ST37.un x1).2.1).length ch_0_0.2.1.2 (RdS Y122 ch_0_0.2.1.1 ((ST37.un x1).2.1)), .sl ch_0_0.2.2.1.1 ((ST37.un x1).2.2.1).length ch_0_0.2.2.1.2 (RdS (Ty.arr .u8 20) ch_0_0.2.2.1.1 ((ST37.un x1).2.2.1)), .sl ch_0_0.2.2.2.1.1 ((ST37.un x1).2.2.2.1).length ch_0_0.2.2.2.1.2 (RdS Y133 ch_0_0.2.2.2.1.1 ((ST37.un x1).2.2.2.1)), .one (.int .i64 ((ST37.un x1).2.2.2.2.1)), .sl ch_0_0.2.2.2.2.2.1.1 ((ST37.un x1).2.2.2.2.2.1).length ch_0_0.2.2.2.2.2.1.2 (RdS Y100 ch_0_0.2.2.2.2.2.1.1 ((ST37.un x1).2.2.2.2.2.1)), .one (.bool ((ST37.un x1).2.2.2.2.2.2.1)), .sl ch_0_0.2.2.2.2.2.2.2.1 ((ST37.un x1).2.2.2.2.2.2.2).length ch_0_0.2.2.2.2.2.2.2.2 (SR37 ch_0_0.2.2.2.2.2.2.2.1 ((ST37.un x1).2.2.2.2.2.2.2))]] a w → smithyref14_State_At.j1 k x1 x2 = some r → K1 a w := by
  intro m g13 g14 g15 a w S h0
  delta smithyref14_State_At.j1 at h0
  refine hK1 a w ?_
  refine c_region ?_
  refine s_loada S rfl (.there (.there .here)) T37 (s' := [.sl ch_0_0.1.1 ((ST37.un x1).1).length ch_0_0.1.2 (RdS Y71 ch_0_0.1.1 ((ST37.un x1).1)), .sl ch_0_0.2.1.1 ((ST37.un x1).2.1).length ch_0_0.2.1.2 (RdS Y122 ch_0_0.2.1.1 ((ST37.un x1).2.1)), .sl ch_0_0.2.2.1.1 ((ST37.un x1).2.2.1).length ch_0_0.2.2.1.2 (RdS (Ty.arr .u8 20) ch_0_0.2.2.1.1 ((ST37.un x1).2.2.1)), .sl ch_0_0.2.2.2.1.1 ((ST37.un x1).2.2.2.1).length ch_0_0.2.2.2.1.2 (RdS Y133 ch_0_0.2.2.2.1.1 ((ST37.un x1).2.2.2.1)), .one (.int .i64 ((ST37.un x1).2.2.2.2.1)), .sl ch_0_0.2.2.2.2.2.1.1 ((ST37.un x1).2.2.2.2.2.1).length ch_0_0.2.2.2.2.2.1.2 (RdS Y100 ch_0_0.2.2.2.2.2.1.1 ((ST37.un x1).2.2.2.2.2.1)), .one (.bool ((ST37.un x1).2.2.2.2.2.2.1)), .sl ch_0_0.2.2.2.2.2.2.2.1 ((ST37.un x1).2.2.2.2.2.2.2).length ch_0_0.2.2.2.2.2.2.2.2 (SR37 ch_0_0.2.2.2.2.2.2.2.1 ((ST37.un x1).2.2.2.2.2.2.2))]) rfl rfl ?_; clear S a; intro a S
  refine s_loada S rfl (.there .here) T40 (s' := [.ints .u8 x2 20]) rfl rfl ?_; clear S a; intro a S
  obtain ⟨t1, et1, h1⟩ := bind_of h0; clear h0
  refine s_callP S (fun (ch : W4) => ((.agg (Y71.segs t1 ((), (), (), (ch.1, ch.2.1), (ch.2.2.1, ch.2.2.2)))) : D)) N87 rfl rfl (smithyref14_State_Base.ok k x1 x2 ((ch_0_0.1.1, ch_0_0.1.2), (ch_0_0.2.1.1, ch_0_0.2.1.2), (ch_0_0.2.2.1.1, ch_0_0.2.2.1.2), (ch_0_0.2.2.2.1.1, ch_0_0.2.2.2.1.2), (), (ch_0_0.2.2.2.2.2.1.1, ch_0_0.2.2.2.2.2.1.2), (), (ch_0_0.2.2.2.2.2.2.2.1, ch_0_0.2.2.2.2.2.2.2.2)) t1 et1 _ _) ?_; clear S a w; intro ch1 m le1 a w S
  refine s_bldS S (ds := [(0, (.agg (Y71.segs t1 ((), (), (), (ch1.1, ch1.2.1), (ch1.2.2.1, ch1.2.2.2)))))]) (zs := [.ints .u8 [0, 0, 0, 0, 0, 0, 0, 0, 0, 0, 0, 0, 0, 0, 0, 0, 0, 0, 0, 0] 20, .one (.int .u64 0), .ints .u64 [0, 0, 0, 0] 4, .one (.slice none 0 0), .one (.slice none 0 0), .one (.bool false), .one (.bool false)]) (s' := [.ints .u8 t1.1 20, .one (.int .u64 t1.2.1), .ints .u64 t1.2.2.1 4, .sl ch1.1 (t1.2.2.2.1).length ch1.2.1 (RdS (Ty.int .u8) ch1.1 t1.2.2.2.1), .sl ch1.2.2.1 (t1.2.2.2.2).length ch1.2.2.2 (RdS Y83 ch1.2.2.1 t1.2.2.2.2), .one (.bool false), .one (.bool false)]) rfl Tryz.underlying122 P122 Z122 ⟨rfl, rfl, rfl, rfl, rfl, rfl, rfl, trivial⟩ rfl rfl ?_; clear S a; intro a S
  refine s_store S rfl rfl rfl (s' := [.ints .u8 t1.1 20, .one (.int .u64 t1.2.1), .ints .u64 t1.2.2.1 4, .sl ch1.1 (t1.2.2.2.1).length ch1.2.1 (RdS (Ty.int .u8) ch1.1 t1.2.2.2.1), .sl ch1.2.2.1 (t1.2.2.2.2).length ch1.2.2.2 (RdS Y83 ch1.2.2.1 t1.2.2.2.2), .one (.bool false), .one (.bool false)]) .here T122 rfl rfl ?_; clear S w; intro w S
  refine c_end ?_
  refine wp_ret ?_
  obtain rfl := Option.some.inj h1
  exact b_ret1 (d := (.agg [.ints .u8 t1.1 20, .one (.int .u64 t1.2.1), .ints .u64 t1.2.2.1 4, .sl ch1.1 (t1.2.2.2.1).length ch1.2.1 (RdS (Ty.int .u8) ch1.1 t1.2.2.2.1), .sl ch1.2.2.1 (t1.2.2.2.2).length ch1.2.2.2 (RdS Y83 ch1.2.2.1 t1.2.2.2.2), .one (.bool false), .one (.bool false)])) S rfl (resD_cell rfl .here T122 rfl rfl) fun ok => S.retX (Hx := []) hb _ _ ((ch1.1, ch1.2.1, ch1.2.2.1, ch1.2.2.2) : W4) .nil ok
 refine c_region ?_
 refine s_fieldAddr S rfl I37_1 T31 (by decide) rfl rfl ?_; clear S a; intro a S
 refine s_loadSl S rfl (.there (.there .here)) T31 (A := ch_0_0.2.1.1) (len := ((ST37.un x1).2.1).length) (cap := ch_0_0.2.1.2) rfl rfl ?_; clear S a; intro a S
 refine s_lenS S rfl Tryz.underlying31 rfl ?_; clear S a; intro a S
 refine s_move S rfl rfl ?_; clear S a; intro a S
 refine c_end ?_
 refine wp_block ?_
 refine c_loop (fun q1 a w => ∃ (m : Mem) (y1 : Int) (g22 : Nat) (g23 : Nat) (g24 : Nat), St 31 m b0 [(9, (.v (.int .i64 y1))), (8, (.v (.int .i64 (((ST37.un x1).2.1).length : Int)))), (4, (.v (.pointer (some ⟨g22, 0, none⟩)))), (3, (.v (.pointer (some ⟨g23, 0, none⟩)))), (2, (.v (.pointer (some ⟨g24, 0, none⟩))))] [Res.cells g22 122 [.ints .u8 [0, 0, 0, 0, 0, 0, 0, 0, 0, 0, 0, 0, 0, 0, 0, 0, 0, 0, 0, 0] 20, .one (.int .u64 0), .ints .u64 [0, 0, 0, 0] 4, .one (.slice none 0 0), .one (.slice none 0 0), .one (.bool false), .one (.bool false)], Res.cells g23 40 [.ints .u8 x2 20], Res.cells g24 37 [.sl ch_0_0.1.1 ((ST37.un x1).1).length ch_0_0.1.2 (RdS Y71 ch_0_0.1.1 ((ST37.un x1).1)), .sl ch_0_0.2.1.1 ((ST37.un x1).2.1).length ch_0_0.2.1.2 (RdS Y122 ch_0_0.2.1.1 ((ST37.un x1).2.1)), .sl ch_0_0.2.2.1.1 ((ST37.un x1).2.2.1).length ch_0_0.2.2.1.2 (RdS (Ty.arr .u8 20) ch_0_0.2.2.1.1 ((ST37.un x1).2.2.1)), .sl ch_0_0.2.2.2.1.1 ((ST37.un x1).2.2.2.1).length ch_0_0.2.2.2.1.2 (RdS Y133 ch_0_0.2.2.2.1.1 ((ST37.un x1).2.2.2.1)), .one (.int .i64 ((ST37.un x1).2.2.2.2.1)), .sl ch_0_0.2.2.2.2.2.1.1 ((ST37.un x1).2.2.2.2.2.1).length ch_0_0.2.2.2.2.2.1.2 (RdS Y100 ch_0_0.2.2.2.2.2.1.1 ((ST37.un x1).2.2.2.2.2.1)), .one (.bool ((ST37.un x1).2.2.2.2.2.2.1)), .sl ch_0_0.2.2.2.2.2.2.2.1 ((ST37.un x1).2.2.2.2.2.2.2).length ch_0_0.2.2.2.2.2.2.2.2 (SR37 ch_0_0.2.2.2.2.2.2.2.1 ((ST37.un x1).2.2.2.2.2.2.2))]] a w ∧ smithyref14_State_At.l1 k x1 x2 q1 y1 = some r) ?_ ?_ (k := k) ⟨_, 0, g3, g2, g1, (S.sub (subR rfl) (.cons .here (.cons .here (.cons .here .nil)))), h0⟩
 ·rintro a w ⟨m, y1, g22, g23, g24, S, h0⟩
  exact (nomatch (show (none : Option W20) = some r from h0))
 ·clear S h0
  rintro q1 a w ⟨m, y1, g22, g23, g24, S, h0⟩
  replace h0 : smithyref14_State_At.b1 k x1 x2 (smithyref14_State_At.l1 k x1 x2 q1) y1 = some r := h0
  delta smithyref14_State_At.b1 at h0
  refine c_region ?_
  refine s_bin S rfl rfl rfl rfl ?_; clear S a; intro a S
  refine c_end ?_
  refine wp_seq ?_
  rcases ite_of h0 with ⟨c1, h1⟩ | ⟨c1, h1⟩ <;> clear h0
  ·refine c_condT S rfl c1 ?_
   refine wp_skip ?_
   refine x_thenN ?_
   refine wp_seq ?_
   refine wp_block ?_
   refine c_region ?_
   refine s_move S rfl rfl ?_; clear S a; intro a S
   refine s_assign S rfl rfl ?_; clear S a; intro a S
   refine c_end ?_
   refine wp_seq (c_heldS S (.take 0 (.take 1 (.take 2 (.take 3 (.take 4 (.take 5 (.take 6 (.take 7 (.take 8 .done))))))))) 9 [Res.cells g22 122 [.ints .u8 [0, 0, 0, 0, 0, 0, 0, 0, 0, 0, 0, 0, 0, 0, 0, 0, 0, 0, 0, 0] 20, .one (.int .u64 0), .ints .u64 [0, 0, 0, 0] 4, .one (.slice none 0 0), .one (.slice none 0 0), .one (.bool false), .one (.bool false)], Res.cells g23 40 [.ints .u8 x2 20], Res.cells g24 37 [.sl ch_0_0.1.1 ((ST37.un x1).1).length ch_0_0.1.2 (RdS Y71 ch_0_0.1.1 ((ST37.un x1).1)), .sl ch_0_0.2.1.1 ((ST37.un x1).2.1).length ch_0_0.2.1.2 (RdS Y122 ch_0_0.2.1.1 ((ST37.un x1).2.1)), .sl ch_0_0.2.2.1.1 ((ST37.un x1).2.2.1).length ch_0_0.2.2.1.2 (RdS (Ty.arr .u8 20) ch_0_0.2.2.1.1 ((ST37.un x1).2.2.1)), .sl ch_0_0.2.2.2.1.1 ((ST37.un x1).2.2.2.1).length ch_0_0.2.2.2.1.2 (RdS Y133 ch_0_0.2.2.2.1.1 ((ST37.un x1).2.2.2.1)), .one (.int .i64 ((ST37.un x1).2.2.2.2.1)), .sl ch_0_0.2.2.2.2.2.1.1 ((ST37.un x1).2.2.2.2.2.1).length ch_0_0.2.2.2.2.2.1.2 (RdS Y100 ch_0_0.2.2.2.2.2.1.1 ((ST37.un x1).2.2.2.2.2.1)), .one (.bool ((ST37.un x1).2.2.2.2.2.2.1)), .sl ch_0_0.2.2.2.2.2.2.2.1 ((ST37.un x1).2.2.2.2.2.2.2).length ch_0_0.2.2.2.2.2.2.2.2 (SR37 ch_0_0.2.2.2.2.2.2.2.1 ((ST37.un x1).2.2.2.2.2.2.2))]] (.cons .here (.cons .here (.cons .here .nil))) ⟨Res.stay_cells, Res.stay_cells, Res.stay_cells, trivial⟩ [(5, (.v (.int .i64 y1))), (3, (.v (.pointer (some ⟨g23, 0, none⟩)))), (2, (.v (.pointer (some ⟨g24, 0, none⟩))))] (subR rfl) (by kernel_rfl) (by kernel_rfl) ?_); clear S; intro w S CL hw le
   refine h_fieldAddr S CL hw le (subR rfl) rfl I37_1 T31 (by decide) rfl rfl rfl trivial ?_; clear S CL a; intro a S CL
   refine h_loadSl S CL hw le (subR rfl) rfl (.there (.there .here)) T31 (A := ch_0_0.2.1.1) (len := ((ST37.un x1).2.1).length) (cap := ch_0_0.2.1.2) rfl rfl rfl trivial ?_; clear S CL a; intro a S CL
   refine h_move S CL hw le (subR rfl) rfl rfl rfl trivial ?_; clear S CL a; intro a S CL
   obtain ⟨c2, h2⟩ := chk_of h1; clear h1
   refine h_iaddrS S CL hw le (subR rfl) rfl rfl rfl Tryz.underlying31 T122 c2.1 c2.2 rfl rfl trivial ?_; clear S CL a; intro p1 a S CL
   refine h_faddrP S CL hw le (subR rfl) (tF := Y71) (y := (gt ((ST37.un x1).2.1) y1).1) rfl I122_0 T71 (by decide) (fun m h => (at_fst (at_0 h))) rfl rfl trivial ?_; clear S CL a; intro a S CL
   refine h_faddrP S CL hw le (subR rfl) (tF := (Ty.arr .u8 20)) (y := ((gt ((ST37.un x1).2.1) y1).1).1) rfl I71_0 T40 (by decide) (fun m h => (at_fst (at_0 h))) rfl rfl trivial ?_; clear S CL a; intro a S CL
   refine h_ldA S CL hw le (subR rfl) (fun (c : Unit) => [.ints .u8 (((gt ((ST37.un x1).2.1) y1).1).1) 20]) rfl T40 (fun _ => rfl) rfl rfl trivial ?_; clear S CL a; intro ch2 a S CL
   refine h_loada S CL hw le (subR rfl) rfl (.there .here) T40 (s' := [.ints .u8 x2 20]) rfl rfl rfl trivial ?_; clear S CL a; intro a S CL
   refine h_eqa S CL hw le (subR rfl) rfl rfl Tryz.underlying40 Tryz.underlying5 T5 Q40 rfl rfl trivial ?_; clear S CL a; intro a S CL
   refine h_done ?_; clear CL hw le
   refine x_thenN ?_
   rcases ite_of h2 with ⟨c3, h3⟩ | ⟨c3, h3⟩ <;> clear h2
   ·refine c_condT S rfl c3 ?_
    refine c_region ?_
    refine s_fieldAddr S rfl I37_1 T31 (by decide) rfl rfl ?_; clear S a; intro a S
    refine s_loadSl S rfl (.there (.there .here)) T31 (A := ch_0_0.2.1.1) (len := ((ST37.un x1).2.1).length) (cap := ch_0_0.2.1.2) rfl rfl ?_; clear S a; intro a S
    refine s_move S rfl rfl ?_; clear S a; intro a S
    refine s_iaddrS S rfl rfl rfl Tryz.underlying31 T122 c2.1 c2.2 rfl ?_; clear S a; intro p2 a S
    refine s_ldA S (fun (c : (Unit × Unit × Unit × (Option Addr × Nat) × (Option Addr × Nat)) × Unit × Unit) => [.ints .u8 (((gt ((ST37.un x1).2.1) y1).1).1) 20, .one (.int .u64 (((gt ((ST37.un x1).2.1) y1).1).2.1)), .ints .u64 (((gt ((ST37.un x1).2.1) y1).1).2.2.1) 4, .sl c.1.2.2.2.1.1 (((gt ((ST37.un x1).2.1) y1).1).2.2.2.1).length c.1.2.2.2.1.2 (RdS (Ty.int .u8) c.1.2.2.2.1.1 (((gt ((ST37.un x1).2.1) y1).1).2.2.2.1)), .sl c.1.2.2.2.2.1 (((gt ((ST37.un x1).2.1) y1).1).2.2.2.2).length c.1.2.2.2.2.2 (RdS Y83 c.1.2.2.2.2.1 (((gt ((ST37.un x1).2.1) y1).1).2.2.2.2)), .one (.bool ((gt ((ST37.un x1).2.1) y1).2.1)), .one (.bool ((gt ((ST37.un x1).2.1) y1).2.2))]) rfl T122 (fun _ => rfl) rfl ?_; clear S a; intro ch3 a S
    refine s_store S rfl rfl rfl (s' := [.ints .u8 (((gt ((ST37.un x1).2.1) y1).1).1) 20, .one (.int .u64 (((gt ((ST37.un x1).2.1) y1).1).2.1)), .ints .u64 (((gt ((ST37.un x1).2.1) y1).1).2.2.1) 4, .sl ch3.1.2.2.2.1.1 (((gt ((ST37.un x1).2.1) y1).1).2.2.2.1).length ch3.1.2.2.2.1.2 (RdS (Ty.int .u8) ch3.1.2.2.2.1.1 (((gt ((ST37.un x1).2.1) y1).1).2.2.2.1)), .sl ch3.1.2.2.2.2.1 (((gt ((ST37.un x1).2.1) y1).1).2.2.2.2).length ch3.1.2.2.2.2.2 (RdS Y83 ch3.1.2.2.2.2.1 (((gt ((ST37.un x1).2.1) y1).1).2.2.2.2)), .one (.bool ((gt ((ST37.un x1).2.1) y1).2.1)), .one (.bool ((gt ((ST37.un x1).2.1) y1).2.2))]) .here T122 rfl rfl ?_; clear S w; intro w S
    refine c_end ?_
    refine wp_ret ?_
    refine x_blockR ?_
    refine x_thenR ?_
    refine x_thenR ?_
    refine x_blockR ?_
    refine x_thenR ?_
    obtain rfl := Option.some.inj h3
    exact b_ret1 (d := (.agg [.ints .u8 (((gt ((ST37.un x1).2.1) y1).1).1) 20, .one (.int .u64 (((gt ((ST37.un x1).2.1) y1).1).2.1)), .ints .u64 (((gt ((ST37.un x1).2.1) y1).1).2.2.1) 4, .sl ch3.1.2.2.2.1.1 (((gt ((ST37.un x1).2.1) y1).1).2.2.2.1).length ch3.1.2.2.2.1.2 (RdS (Ty.int .u8) ch3.1.2.2.2.1.1 (((gt ((ST37.un x1).2.1) y1).1).2.2.2.1)), .sl ch3.1.2.2.2.2.1 (((gt ((ST37.un x1).2.1) y1).1).2.2.2.2).length ch3.1.2.2.2.2.2 (RdS Y83 ch3.1.2.2.2.2.1 (((gt ((ST37.un x1).2.1) y1).1).2.2.2.2)), .one (.bool ((gt ((ST37.un x1).2.1) y1).2.1)), .one (.bool ((gt ((ST37.un x1).2.1) y1).2.2))])) S rfl (resD_cell rfl .here T122 rfl rfl) fun ok => S.retX (Hx := []) hb _ _ ((ch3.1.2.2.2.1.1, ch3.1.2.2.2.1.2, ch3.1.2.2.2.2.1, ch3.1.2.2.2.2.2) : W4) .nil ok
   ·refine c_condF S rfl c3 ?_
    refine wp_skip ?_
    refine x_blockN ?_
    refine x_thenN ?_
    refine c_region' ?_
    refine s_bin S rfl rfl rfl rfl ?_; clear S a; intro a S
    refine s_move S rfl rfl ?_; clear S a; intro a S
    refine c_end' ?_
    refine x_thenN ?_
    exact ⟨_, (wr .i64 (y1 + 1)), g22, g23, g24, (S.sub (subR rfl) (.cons .here (.cons .here (.cons .here .nil)))), h3⟩
  ·refine c_condF S rfl c1 ?_
   refine wp_exit ?_
   refine x_thenX ?_
   refine x_thenX ?_
   refine x_blockX ?_
   refine x_thenN ?_
   exact j1 _ g22 g23 g24 a w (S.sub (subR rfl) (.cons .here (.cons .here (.cons .here .nil)))) h1
end
end GW
