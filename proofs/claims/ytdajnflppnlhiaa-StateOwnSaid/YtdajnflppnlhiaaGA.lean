import Derived.Test.YtdajnflppnlhiaaProg
import Derived.Test.YtdajnflppnlhiaaGWBrev
set_option linter.unusedVariables false
set_option linter.unusedSimpArgs false
set_option maxRecDepth 10000
set_option maxHeartbeats 4000000
namespace GW
open Go Go.RowKit Go.Proofs Go.Proofs.Try
noncomputable section
abbrev L39:Type:=(List Int)×Int×(List Int)×(List Int)×(List ((List Int)×(List Int)))
abbrev Y82:Ty ((List Int)×(List Int)):=(Ty.prod (Ty.arr .u64 4) (Ty.arr .u64 4))
abbrev Y39:Ty L39:=(Ty.prod (Ty.arr .u8 20) (Ty.prod (Ty.int .u64) (Ty.prod (Ty.arr .u64 4) (Ty.prod (Ty.slice (Ty.int .u8)) (Ty.slice Y82)))))
theorem T39:tyI Try.prog 39=some (true,27):=by kernel_rfl
theorem I39_3:fieldI Try.prog 39 3=some (25,36):=by kernel_rfl
theorem T36:tyI Try.prog 36=some (false,1):=by kernel_rfl
theorem I39_4:fieldI Try.prog 39 4=some (26,37):=by kernel_rfl
theorem T37:tyI Try.prog 37=some (false,1):=by kernel_rfl
theorem N22:Fn_ Try.prog 22:=⟨_,func22,rfl,by decide⟩
theorem Z39:zeroI Try.prog 39=some (D.val (.agg [.b20 z20, .w 0, .w4 [0,0,0,0], .s none 0 0, .s none 0 0])):=by kernel_rfl
theorem T82:tyI Try.prog 82=some (true,8):=by kernel_rfl
theorem I82_1:fieldI Try.prog 82 1=some (4,35):=by kernel_rfl
theorem T35:tyI Try.prog 35=some (true,4):=by kernel_rfl
theorem T32:tyI Try.prog 32=some (false,1):=by kernel_rfl
theorem Q35:Try.prog.eqGuardType Try.prog.depth 35=false:=by kernel_rfl
theorem I82_0:fieldI Try.prog 82 0=some (0,35):=by kernel_rfl
theorem Z105:zeroI Try.prog 105=some (D.val (.agg [.ints .i64 z32 32])):=by kernel_rfl
theorem T105:tyI Try.prog 105=some (true,32):=by kernel_rfl
theorem T3:tyI Try.prog 3=some (false,1):=by kernel_rfl
theorem N52:Fn_ Try.prog 52:=⟨_,func52,rfl,by decide⟩
theorem N51:Fn_ Try.prog 51:=⟨_,func51,rfl,by decide⟩
theorem N40:Fn_ Try.prog 40:=⟨_,func40,rfl,by decide⟩
abbrev W1:Type:=L39
theorem N23:Fn_ Try.prog 23:=⟨_,func23,rfl,by decide⟩
theorem N5:Fn_ Try.prog 5:=⟨_,func5,rfl,by decide⟩
theorem I51_2:fieldI Try.prog 51 2=some (21,36):=by kernel_rfl
theorem I51_1:fieldI Try.prog 51 1=some (20,49):=by kernel_rfl
theorem T49:tyI Try.prog 49=some (false,1):=by kernel_rfl
theorem P68:∀ w:World,((match Try.prog.underlying 68 with | some (.struct fs)=>fs | _=>(#[]:Array Field)).mapM fun (f:Field)=>(do pure (f.offset, ← Go.sizeOf f.type):Sem (Nat×Nat))).run Try.prog w = .ok #[(0,1)] w:=fun _=>by kernel_rfl
theorem Z68:zeroI Try.prog 68=some (D.val (.agg [.s none 0 0])):=by kernel_rfl
abbrev L76:Type:=L39×L39×Bool×Nat×Bool×Bool×Nat
abbrev YE76 (M1 M2:List Nat):Ty (L76):=(Ty.prod Y39 (Ty.prod Y39 (Ty.prod Ty.bool (Ty.prod (Ty.mid M1) (Ty.prod Ty.bool (Ty.prod Ty.bool (Ty.mid M2)))))))
theorem YS76_0 (M1 M2:List Nat)(g:Nat):SubT (YE76 M1 M2) (YE76 (M1++[g]) M2):=(subT_prod (SubT.refl _) (subT_prod (SubT.refl _) (subT_prod (SubT.refl _) (subT_prod (subT_mid M1 g) (subT_prod (SubT.refl _) (subT_prod (SubT.refl _) (SubT.refl _)))))))
theorem YS76_1 (M1 M2:List Nat)(g:Nat):SubT (YE76 M1 M2) (YE76 M1 (M2++[g])):=(subT_prod (SubT.refl _) (subT_prod (SubT.refl _) (subT_prod (SubT.refl _) (subT_prod (SubT.refl _) (subT_prod (SubT.refl _) (subT_prod (SubT.refl _) (subT_mid M2 g)))))))
abbrev L51:Type:=(List Int)×(List (List Int))×(List Int)
abbrev Y51:Ty L51:=(Ty.prod (Ty.arr .u8 20) (Ty.prod (Ty.slice (Ty.arr .u64 4)) (Ty.slice (Ty.int .u8))))
inductive Clo where
  | nil
  | c30 (x0:List Int) (x1:Option Nat)
  | c31 (x0:Unit) (x1:Int)
  | c33 (x0:Bool) (x1:List Int) (x2:Nat) (x3:List Int)
instance:Inhabited Clo:=⟨.nil⟩
def cA (c:List Addr)(i:Nat):Addr:=c.getD i ⟨0,0,none⟩
def cloV:Clo→List Addr→Value
  | .nil,_=> .nilFunc
  | .c30 _ _,c=> .func (.func 30) #[] #[.pointer (some (cA c 0)), .pointer (some (cA c 1))]
  | .c31 _ _,c=> .func (.func 31) #[] #[.pointer (some (cA c 0)), .pointer (some (cA c 1))]
  | .c33 _ _ _ _,c=> .func (.func 33) #[] #[.pointer (some (cA c 0)), .pointer (some (cA c 1)), .pointer (some (cA c 2)), .pointer (some (cA c 3))]
def cloR (gs:Nat)(G M1 M2:List Nat):Clo→List Addr→Mem→Prop
  | .nil,_=>fun _=>True
  | .c30 x0 x1,c=>fun m=>At (Ty.slice yb) (cA c 0) x0 m∧At (Ty.pid G) (cA c 1) x1 m∧True
  | .c31 x0 x1,c=>fun m=>At (Ty.own gs) (cA c 0) x0 m∧At yi (cA c 1) x1 m∧True
  | .c33 x0 x1 x2 x3,c=>fun m=>At Ty.bool (cA c 0) x0 m∧At (Ty.arr .u64 4) (cA c 1) x1 m∧At (Ty.mid M1) (cA c 2) x2 m∧At (Ty.arr .u64 4) (cA c 3) x3 m∧True
theorem cloM (gs:Nat)(G M1 M2:List Nat):∀ (x:Clo) (c:List Addr),Mono (cloR gs G M1 M2 x c)
  | .nil,_=>fun _ _ _ _=>trivial
  | .c30 _ _,c=>fun m m' hm h=>⟨At.mono _ _ _ m m' hm h.1,At.mono _ _ _ m m' hm h.2.1,tv⟩
  | .c31 _ _,c=>fun m m' hm h=>⟨At.mono _ _ _ m m' hm h.1,At.mono _ _ _ m m' hm h.2.1,tv⟩
  | .c33 _ _ _ _,c=>fun m m' hm h=>⟨At.mono _ _ _ m m' hm h.1,At.mono _ _ _ m m' hm h.2.1,At.mono _ _ _ m m' hm h.2.2.1,At.mono _ _ _ m m' hm h.2.2.2.1,tv⟩
abbrev YC (gs:Nat)(G M1 M2:List Nat):Ty Clo:=Ty.fnc cloV (cloR gs G M1 M2)
theorem cloS_0 (gs:Nat)(G M1 M2:List Nat)(g:Nat):∀ (x:Clo) (c:List Addr) (m:Mem),cloR gs G M1 M2 x c m→cloR gs (G++[g]) M1 M2 x c m
  | .nil,_,_,_=>trivial
  | .c30 _ _,c,m,h=>⟨h.1,(at_sub (subT_pid _ g) h.2.1),tv⟩
  | .c31 _ _,c,m,h=>⟨h.1,h.2.1,tv⟩
  | .c33 _ _ _ _,c,m,h=>⟨h.1,h.2.1,h.2.2.1,h.2.2.2.1,tv⟩
theorem YCs_0 (gs:Nat)(G M1 M2:List Nat)(g:Nat):SubT (YC gs G M1 M2) (YC gs (G++[g]) M1 M2):=subT_fnc (cloS_0 gs G M1 M2 g) (cloM _ _ _ _)
theorem cloS_1 (gs:Nat)(G M1 M2:List Nat)(g:Nat):∀ (x:Clo) (c:List Addr) (m:Mem),cloR gs G M1 M2 x c m→cloR gs G (M1++[g]) M2 x c m
  | .nil,_,_,_=>trivial
  | .c30 _ _,c,m,h=>⟨h.1,h.2.1,tv⟩
  | .c31 _ _,c,m,h=>⟨h.1,h.2.1,tv⟩
  | .c33 _ _ _ _,c,m,h=>⟨h.1,h.2.1,(at_sub (subT_mid _ g) h.2.2.1),h.2.2.2.1,tv⟩
theorem YCs_1 (gs:Nat)(G M1 M2:List Nat)(g:Nat):SubT (YC gs G M1 M2) (YC gs G (M1++[g]) M2):=subT_fnc (cloS_1 gs G M1 M2 g) (cloM _ _ _ _)
theorem cloS_2 (gs:Nat)(G M1 M2:List Nat)(g:Nat):∀ (x:Clo) (c:List Addr) (m:Mem),cloR gs G M1 M2 x c m→cloR gs G M1 (M2++[g]) x c m
  | .nil,_,_,_=>trivial
  | .c30 _ _,c,m,h=>⟨h.1,h.2.1,tv⟩
  | .c31 _ _,c,m,h=>⟨h.1,h.2.1,tv⟩
  | .c33 _ _ _ _,c,m,h=>⟨h.1,h.2.1,h.2.2.1,h.2.2.2.1,tv⟩
theorem YCs_2 (gs:Nat)(G M1 M2:List Nat)(g:Nat):SubT (YC gs G M1 M2) (YC gs G M1 (M2++[g])):=subT_fnc (cloS_2 gs G M1 M2 g) (cloM _ _ _ _)
theorem P72:∀ w:World,((match Try.prog.underlying 72 with | some (.struct fs)=>fs | _=>(#[]:Array Field)).mapM fun (f:Field)=>(do pure (f.offset, ← Go.sizeOf f.type):Sem (Nat×Nat))).run Try.prog w = .ok #[(0,1),(1,1),(2,1),(3,1),(4,1),(5,1)] w:=fun _=>by kernel_rfl
theorem Z72:zeroI Try.prog 72=some (D.val (.agg [.one .nilIface, .one (.map none), .i 0, .s none 0 0, .s none 0 0, .s none 0 0])):=by kernel_rfl
abbrev W2:Type:=((List L39))×((List ((List Int)×Option Nat))×(List L76)×(List (List ((List Int)×(List Int))))×(List (List ((List Int)×Bool))))×Int×(List L51)×(List Clo)×(List (List Int))
abbrev W3:Type:=Nat×(Option Addr)×Nat×Nat×(List Nat)×(List Nat)×(List Nat)×(Option Addr)×Nat×Nat×(Option Addr)×Nat×Nat×(Option Addr)×Nat×Nat
abbrev MS1 (x:W2)(c:W3):List Res:=[Res.cells c.1 72 [.rf (.iface 68 (.agg (cellsOf [.sl c.2.1 (x.1).length c.2.2.1 (RdS Y39 c.2.1 x.1)]).toArray)) (IfR [.sl c.2.1 (x.1).length c.2.2.1 (RdS Y39 c.2.1 x.1)]), .one (.map (some c.2.2.2.1)), .one (.int .i64 x.2.2.1), .one (.slice c.2.2.2.2.2.2.2.1 c.2.2.2.2.2.2.2.2.1 c.2.2.2.2.2.2.2.2.2.1), .one (.slice c.2.2.2.2.2.2.2.2.2.2.1 c.2.2.2.2.2.2.2.2.2.2.2.1 c.2.2.2.2.2.2.2.2.2.2.2.2.1), .one (.slice c.2.2.2.2.2.2.2.2.2.2.2.2.2.1 c.2.2.2.2.2.2.2.2.2.2.2.2.2.2.1 c.2.2.2.2.2.2.2.2.2.2.2.2.2.2.2)],Res.map true (Ty.arr .u8 20) false (Ty.pid c.2.2.2.2.1) c.2.2.2.1 x.2.1.1,Res.fam (Res.struct (YE76 c.2.2.2.2.2.1 c.2.2.2.2.2.2.1) 76) (one_struct _ _) c.2.2.2.2.1 [] x.2.1.2.1,Res.fam (fun g_ kvs_=>Res.map true (Ty.arr .u64 4) true (Ty.arr .u64 4) g_ kvs_) (one_map true (Ty.arr .u64 4) true (Ty.arr .u64 4)) c.2.2.2.2.2.1 [] x.2.1.2.2.1,Res.fam (fun g_ kvs_=>Res.map true (Ty.arr .u64 4) false Ty.bool g_ kvs_) (one_map true (Ty.arr .u64 4) false Ty.bool) c.2.2.2.2.2.2.1 [] x.2.1.2.2.2,Res.row Y51 51 c.2.2.2.2.2.2.2.1 c.2.2.2.2.2.2.2.2.1 c.2.2.2.2.2.2.2.2.2.1 x.2.2.2.1,Res.row (YC c.1 c.2.2.2.2.1 c.2.2.2.2.2.1 c.2.2.2.2.2.2.1) 1 c.2.2.2.2.2.2.2.2.2.2.1 c.2.2.2.2.2.2.2.2.2.2.2.1 c.2.2.2.2.2.2.2.2.2.2.2.2.1 x.2.2.2.2.1,Res.row (Ty.arr .u8 20) 31 c.2.2.2.2.2.2.2.2.2.2.2.2.2.1 c.2.2.2.2.2.2.2.2.2.2.2.2.2.2.1 c.2.2.2.2.2.2.2.2.2.2.2.2.2.2.2 x.2.2.2.2.2]
theorem N7:Fn_ Try.prog 7:=⟨_,func7,rfl,by decide⟩
theorem T31:tyI Try.prog 31=some (true,20):=by kernel_rfl
theorem I72_1:fieldI Try.prog 72 1=some (1,69):=by kernel_rfl
theorem T69:tyI Try.prog 69=some (false,1):=by kernel_rfl
theorem T5:tyI Try.prog 5=some (false,1):=by kernel_rfl
theorem KT31:KeyT Try.prog 31 true (Ty.arr .u8 20):=keyT_arr underlying31 underlying5 T5 T31
theorem Z77:zeroI Try.prog 77=some (D.val (.v (.pointer none))):=by kernel_rfl
theorem I72_0:fieldI Try.prog 72 0=some (0,45):=by kernel_rfl
theorem T45:tyI Try.prog 45=some (false,1):=by kernel_rfl
theorem I68_0:fieldI Try.prog 68 0=some (0,22):=by kernel_rfl
theorem T22:tyI Try.prog 22=some (false,1):=by kernel_rfl
theorem I39_0:fieldI Try.prog 39 0=some (0,31):=by kernel_rfl
theorem Q31:Try.prog.eqGuardType Try.prog.depth 31=false:=by kernel_rfl
theorem P39:∀ w:World,((match Try.prog.underlying 39 with | some (.struct fs)=>fs | _=>(#[]:Array Field)).mapM fun (f:Field)=>(do pure (f.offset, ← Go.sizeOf f.type):Sem (Nat×Nat))).run Try.prog w = .ok #[(0,20),(20,1),(21,4),(25,1),(26,1)] w:=fun _=>by kernel_rfl
abbrev W4:Type:=(L39)×Bool
abbrev W5:Type:=(Option Addr)×Nat×(Option Addr)×Nat
theorem M68_Account:methI Try.prog 68 "Account" = some 102:=by kernel_rfl
theorem N102:Fn_ Try.prog 102:=⟨_,func102,rfl,by decide⟩
theorem I72_5:fieldI Try.prog 72 5=some (5,23):=by kernel_rfl
theorem T23:tyI Try.prog 23=some (false,1):=by kernel_rfl
theorem J31:appI Try.prog 31=some (20,20):=by kernel_rfl
theorem Z31:zeroI Try.prog 31=some (D.val (.agg [.b20 z20])):=by kernel_rfl
theorem P76:∀ w:World,((match Try.prog.underlying 76 with | some (.struct fs)=>fs | _=>(#[]:Array Field)).mapM fun (f:Field)=>(do pure (f.offset, ← Go.sizeOf f.type):Sem (Nat×Nat))).run Try.prog w = .ok #[(0,27),(27,27),(54,1),(55,1),(56,1),(57,1),(58,1)] w:=fun _=>by kernel_rfl
theorem Z76:zeroI Try.prog 76=some (D.val (.agg [.b20 z20, .w 0, .w4 [0,0,0,0], .s none 0 0, .s none 0 0, .b20 z20, .w 0, .w4 [0,0,0,0], .s none 0 0, .s none 0 0, .b false, .one (.map none), .b false, .b false, .one (.map none)])):=by kernel_rfl
abbrev W6:Type:=(Option Nat)×(Unit×((List ((List Int)×Option Nat))×(List L76)×(List (List ((List Int)×(List Int))))×(List (List ((List Int)×Bool))))×Unit×(List L51)×(List Clo)×(List (List Int)))
abbrev W7:Type:=Nat×(List Nat)×(List Nat)×(List Nat)×(Option Addr)×Nat×Nat×(Option Addr)×Nat×Nat×(Option Addr)×Nat×Nat
theorem N26:Fn_ Try.prog 26:=⟨_,func26,rfl,by decide⟩
theorem I76_3:fieldI Try.prog 76 3=some (55,73):=by kernel_rfl
theorem T73:tyI Try.prog 73=some (false,1):=by kernel_rfl
theorem Z73:zeroI Try.prog 73=some (D.val (.v (.map none))):=by kernel_rfl
theorem KT35:KeyT Try.prog 35 true (Ty.arr .u64 4):=keyT_arr underlying35 underlying32 T32 T35
theorem Z35:zeroI Try.prog 35=some (D.val (.a4 [0,0,0,0])):=by kernel_rfl
theorem Z4:zeroI Try.prog 4=some (D.val (.b false)):=by kernel_rfl
theorem T4:tyI Try.prog 4=some (false,1):=by kernel_rfl
theorem I72_4:fieldI Try.prog 72 4=some (4,70):=by kernel_rfl
theorem T70:tyI Try.prog 70=some (false,1):=by kernel_rfl
theorem J1:appI Try.prog 1=some (1,8):=by kernel_rfl
theorem Z1:zeroI Try.prog 1=some (D.val (.v .nilFunc)):=by kernel_rfl
abbrev W8:Type:=Unit×Unit×Unit×Unit×(List Clo)×Unit
theorem N29:Fn_ Try.prog 29:=⟨_,func29,rfl,by decide⟩
abbrev W9:Type:=Unit×((List ((List Int)×Option Nat))×(List L76)×(List (List ((List Int)×(List Int))))×(List (List ((List Int)×Bool))))×Unit×(List L51)×(List Clo)×(List (List Int))
theorem N15:Fn_ Try.prog 15:=⟨_,func15,rfl,by decide⟩
theorem N24:Fn_ Try.prog 24:=⟨_,func24,rfl,by decide⟩
theorem T1:tyI Try.prog 1=some (false,1):=by kernel_rfl
theorem T77:tyI Try.prog 77=some (false,1):=by kernel_rfl
theorem I76_1:fieldI Try.prog 76 1=some (27,39):=by kernel_rfl
abbrev W10:Type:=Unit×((List ((List Int)×Option Nat))×(List L76)×(List (List ((List Int)×(List Int))))×(List (List ((List Int)×Bool))))×Unit×Unit×Unit×Unit
abbrev W11:Type:=Nat×(List Nat)×(List Nat)×(List Nat)
theorem T26:tyI Try.prog 26=some (false,1):=by kernel_rfl
theorem I72_3:fieldI Try.prog 72 3=some (3,56):=by kernel_rfl
theorem T56:tyI Try.prog 56=some (false,1):=by kernel_rfl
theorem T51:tyI Try.prog 51=some (true,22):=by kernel_rfl
abbrev W12:Type:=Unit×Unit×Unit×(List L51)×Unit×Unit
abbrev W13:Type:=(Option Addr)×Nat×Nat×(List Nat)×(List Nat)×(List Nat)×(Option Addr)×Nat×Nat×(Option Addr)×Nat×Nat×(Option Addr)×Nat×Nat
theorem N30:Fn_ Try.prog 30:=⟨_,func30,rfl,by decide⟩
theorem N31:Fn_ Try.prog 31:=⟨_,func31,rfl,by decide⟩
theorem N33:Fn_ Try.prog 33:=⟨_,func33,rfl,by decide⟩
abbrev W14:Type:=List ((List Int)×Option Nat)
abbrev W15:Type:=List (List ((List Int)×(List Int)))
abbrev W16:Type:=List (List ((List Int)×Bool))
theorem N25:Fn_ Try.prog 25:=⟨_,func25,rfl,by decide⟩
theorem I76_2:fieldI Try.prog 76 2=some (54,4):=by kernel_rfl
theorem I76_0:fieldI Try.prog 76 0=some (0,39):=by kernel_rfl
theorem N44:Fn_ Try.prog 44:=⟨_,func44,rfl,by decide⟩
theorem N66:Fn_ Try.prog 66:=⟨_,func66,rfl,by decide⟩
abbrev W17:Type:=List ((List Int)×(List Int))
theorem N65:Fn_ Try.prog 65:=⟨_,func65,rfl,by decide⟩
theorem N50:Fn_ Try.prog 50:=⟨_,func50,rfl,by decide⟩
abbrev W18:Type:=(List Int)×(Unit×((List ((List Int)×Option Nat))×(List L76)×(List (List ((List Int)×(List Int))))×(List (List ((List Int)×Bool))))×Unit×(List L51)×(List Clo)×(List (List Int)))
theorem N39:Fn_ Try.prog 39:=⟨_,func39,rfl,by decide⟩
theorem N20:Fn_ Try.prog 20:=⟨_,func20,rfl,by decide⟩
theorem N6:Fn_ Try.prog 6:=⟨_,func6,rfl,by decide⟩
theorem J5:appI Try.prog 5=some (1,1):=by kernel_rfl
theorem Z5:zeroI Try.prog 5=some (D.val (.v (.int .u8 0))):=by kernel_rfl
theorem N27:Fn_ Try.prog 27:=⟨_,func27,rfl,by decide⟩
theorem J82:appI Try.prog 82=some (8,64):=by kernel_rfl
theorem Z82:zeroI Try.prog 82=some (D.val (.agg [.w4 [0,0,0,0], .w4 [0,0,0,0]])):=by kernel_rfl
theorem N28:Fn_ Try.prog 28:=⟨_,func28,rfl,by decide⟩
theorem J39:appI Try.prog 39=some (27,112):=by kernel_rfl
theorem N11:Fn_ Try.prog 11:=⟨_,func11,rfl,by decide⟩
theorem I51_0:fieldI Try.prog 51 0=some (0,31):=by kernel_rfl
theorem J35:appI Try.prog 35=some (4,32):=by kernel_rfl
theorem P51:∀ w:World,((match Try.prog.underlying 51 with | some (.struct fs)=>fs | _=>(#[]:Array Field)).mapM fun (f:Field)=>(do pure (f.offset, ← Go.sizeOf f.type):Sem (Nat×Nat))).run Try.prog w = .ok #[(0,20),(20,1),(21,1)] w:=fun _=>by kernel_rfl
theorem Z51:zeroI Try.prog 51=some (D.val (.agg [.b20 z20, .s none 0 0, .s none 0 0])):=by kernel_rfl
theorem Z36:zeroI Try.prog 36=some (D.val (.s none 0 0)):=by kernel_rfl
theorem N13:Fn_ Try.prog 13:=⟨_,func13,rfl,by decide⟩
theorem Z3:zeroI Try.prog 3=some (D.val (.i 0)):=by kernel_rfl
theorem N41:Fn_ Try.prog 41:=⟨_,func41,rfl,by decide⟩
abbrev W19:Type:=L51
abbrev W20:Type:=(Option Addr)×Nat×Nat×(Option Addr)×Nat×Nat
theorem N32:Fn_ Try.prog 32:=⟨_,func32,rfl,by decide⟩
theorem J51:appI Try.prog 51=some (22,72):=by kernel_rfl
abbrev W21:Type:=Unit×Unit×Unit×(List L51)×(List Clo)×Unit
theorem N14:Fn_ Try.prog 14:=⟨_,func14,rfl,by decide⟩
abbrev W22:Type:=(Option Addr)×Nat×Nat×Nat×(List Nat)×(List Nat)×(List Nat)×(Option Addr)×Nat×Nat×(Option Addr)×Nat×Nat×(Option Addr)×Nat×Nat
theorem N16:Fn_ Try.prog 16:=⟨_,func16,rfl,by decide⟩
abbrev W23:Type:=(Option Addr)×Nat×Nat×Mem
theorem N17:Fn_ Try.prog 17:=⟨_,func17,rfl,by decide⟩
theorem I76_4:fieldI Try.prog 76 4=some (56,4):=by kernel_rfl
theorem P82:∀ w:World,((match Try.prog.underlying 82 with | some (.struct fs)=>fs | _=>(#[]:Array Field)).mapM fun (f:Field)=>(do pure (f.offset, ← Go.sizeOf f.type):Sem (Nat×Nat))).run Try.prog w = .ok #[(0,4),(4,4)] w:=fun _=>by kernel_rfl
def txt0:ByteArray:=ByteArray.mk #[0,1,2,2,3,3,3,3,4,4,4,4,4,4,4,4,5,5,5,5,5,5,5,5,5,5,5,5,5,5,5,5,6,6,6,6,6,6,6,6,6,6,6,6,6,6,6,6,6,6,6,6,6,6,6,6,6,6,6,6,6,6,6,6,7,7,7,7,7,7,7,7,7,7,7,7,7,7,7,7,7,7,7,7,7,7,7,7,7,7,7,7,7,7,7,7,7,7,7,7,7,7,7,7,7,7,7,7,7,7,7,7,7,7,7,7,7,7,7,7,7,7,7,7,7,7,7,7,8,8,8,8,8,8,8,8,8,8,8,8,8,8,8,8,8,8,8,8,8,8,8,8,8,8,8,8,8,8,8,8,8,8,8,8,8,8,8,8,8,8,8,8,8,8,8,8,8,8,8,8,8,8,8,8,8,8,8,8,8,8,8,8,8,8,8,8,8,8,8,8,8,8,8,8,8,8,8,8,8,8,8,8,8,8,8,8,8,8,8,8,8,8,8,8,8,8,8,8,8,8,8,8,8,8,8,8,8,8,8,8,8,8,8,8,8,8,8,8,8,8,8,8,8,8,8,8]
theorem N63:Fn_ Try.prog 63:=⟨_,func63,rfl,by decide⟩
theorem N48:Fn_ Try.prog 48:=⟨_,func48,rfl,by decide⟩
theorem Z126:zeroI Try.prog 126=some (D.val (.w 0)):=by kernel_rfl
theorem T126:tyI Try.prog 126=some (false,1):=by kernel_rfl
theorem N76:Fn_ Try.prog 76:=⟨_,func76,rfl,by decide⟩
theorem N77:Fn_ Try.prog 77:=⟨_,func77,rfl,by decide⟩
theorem N43:Fn_ Try.prog 43:=⟨_,func43,rfl,by decide⟩
theorem N42:Fn_ Try.prog 42:=⟨_,func42,rfl,by decide⟩
abbrev W24:Type:=(L39)×(L39)×Bool×(List ((List Int)×(List Int)))×Bool×Bool×(List ((List Int)×Bool))
theorem N34:Fn_ Try.prog 34:=⟨_,func34,rfl,by decide⟩
theorem I39_1:fieldI Try.prog 39 1=some (20,32):=by kernel_rfl
theorem I39_2:fieldI Try.prog 39 2=some (21,35):=by kernel_rfl
theorem N45:Fn_ Try.prog 45:=⟨_,func45,rfl,by decide⟩
theorem E35:EqTy Try.prog 35 true (Ty.arr .u64 4) 3:=eqTy_arr underlying35 underlying32 T32 T35
theorem E82:EqTy Try.prog 82 true Y82 4:=eqTy_struct (fs:=[("Key",0,35),("Value",4,35)]) (by kernel_rfl) (by kernel_rfl) T82 (by kernel_rfl) (eqF_cons (nm := "Key") (E35.mono (by decide:3≤3)) (by decide) noints_agg (fun h=>by cases h) rfl (eqF_one (nm := "Value") (E35.mono (by decide:3≤3)) (by decide) noints_agg (fun h=>by cases h)))
theorem Q82:Try.prog.eqGuardType Try.prog.depth 82=false:=by kernel_rfl
theorem N46:Fn_ Try.prog 46:=⟨_,func46,rfl,by decide⟩
theorem N35:Fn_ Try.prog 35:=⟨_,func35,rfl,by decide⟩
abbrev W25:Type:=List ((List Int)×(Option Nat))
theorem X64:isCmp Try.prog 64:=⟨_,func64,by kernel_rfl,by kernel_rfl,by kernel_rfl,by kernel_rfl⟩
theorem N49:Fn_ Try.prog 49:=⟨_,func49,rfl,by decide⟩
theorem N38:Fn_ Try.prog 38:=⟨_,func38,rfl,by decide⟩
abbrev W26:Type:=(List Int)×Int×(List Int)×Unit×Unit
theorem N37:Fn_ Try.prog 37:=⟨_,func37,rfl,by decide⟩
theorem N36:Fn_ Try.prog 36:=⟨_,func36,rfl,by decide⟩
theorem N18:Fn_ Try.prog 18:=⟨_,func18,rfl,by decide⟩
theorem N9:Fn_ Try.prog 9:=⟨_,func9,rfl,by decide⟩
theorem N19:Fn_ Try.prog 19:=⟨_,func19,rfl,by decide⟩
theorem N21:Fn_ Try.prog 21:=⟨_,func21,rfl,by decide⟩
def Gd31:(List Int)→Prop:=fun xs=>xs.length=20∧∀ y∈xs,inK .u8 y
def Gd32:Int→Prop:=fun x=>inK .u64 x
def Gd35:(List Int)→Prop:=fun xs=>xs.length=4∧∀ y∈xs,inK .u64 y
def Gd5:Int→Prop:=fun x=>inK .u8 x
def Gd36:(List Int)→Prop:=fun xs=>(∀ y∈xs,Gd5 y)∧xs.length≤maxLen
def Gd82:((List Int)×(List Int))→Prop:=fun y=>Gd35 y.1∧(Gd35 y.2)
def Gd37:(List ((List Int)×(List Int)))→Prop:=fun xs=>(∀ y∈xs,Gd82 y)∧xs.length≤maxLen
def Gd39:L39→Prop:=fun y=>Gd31 y.1∧(Gd32 y.2.1∧(Gd35 y.2.2.1∧(Gd36 y.2.2.2.1∧(Gd37 y.2.2.2.2))))
def Gd22:(List L39)→Prop:=fun xs=>(∀ y∈xs,Gd39 y)∧xs.length≤maxLen
def Gd49:(List (List Int))→Prop:=fun xs=>(∀ y∈xs,Gd35 y)∧xs.length≤maxLen
def Gd51:L51→Prop:=fun y=>Gd31 y.1∧(Gd49 y.2.1∧(Gd36 y.2.2))
abbrev fc7_.Ty:Type:=(List L39)→Option Bool
def fc7_.Ctr (s:fc7_.Ty):Prop:=∀ {x1:List L39} {ch_0_0:Option Addr} {ch_0_1:Nat} {r:Bool} (h0:s x1=some r) {mi:Mem} {w0:World},CtrB Try.prog 22 [(.q Y39 ch_0_0 ch_0_1 x1)] [] (fun (ch:Unit)=>((.b r):D)) (fun (ch:Unit)=>[]) mi w0
def fc7_.j1:Option Bool:=some false
def fc7_.j2 (y1:Int)(rec1:Int→Option Bool)(y2:Bool):Option Bool:=if y2=true then (some true) else (rec1 (wr .i64 (y1+1)))
def fc7_.b1 (x1:List L39)(rec1:Int→Option Bool)(y1:Int):Option Bool:=if (decide (y1<((x1).length:Int)))=true then (if (0:Int)≤y1∧y1<((x1).length:Int) then (if (decide (3000<(((gt x1 y1).2.2.2.1).length:Int)))=true then (fc7_.j2 y1 rec1 true) else (fc7_.j2 y1 rec1 (decide (100<(((gt x1 y1).2.2.2.2).length:Int))))) else none) else fc7_.j1
def fc7_.l1 (x1:List L39):Nat→Int→Option Bool
  | 0,_=>none
  | q+1,y1=>fc7_.b1 x1 (fc7_.l1 x1 q) y1
def fc7_.f (k:Nat)(x1:List L39):Option Bool:=if (decide (50<((x1).length:Int)))=true then (some true) else (fc7_.l1 x1 k 0)
theorem fc7_.ok (k:Nat):fc7_.Ctr (fc7_.f k):=by
 intro x1 ch_0_0 ch_0_1 r h0 mi w0 ok hm
 delta fc7_.f at h0
 refine c_enterZ (n:=29) ok hm func22 rfl rfl rfl fun b0 hb a S=>c_region (s_as1 S rfl fun a S=>c_end (wp_seq (c_region (s_mv1 S rfl fun a S=>s_lenS S rfl underlying22 rfl fun a S=>s_bi S rfl fun a S=>c_end ?_))))
 rcases ite_of h0 with ⟨c1,h1⟩ | ⟨c1,h1⟩
 ·refine c_condT S rfl c1 (c_region (s_as1 S rfl fun a S=>c_end (wp_ret (x_thenR ?_))))
  obtain rfl:=sI h1
  exact b_ret1 (d:=(.b true)) S rfl rfl (S.rt hb)
 ·refine c_condF S rfl c1 (wp_skip (x_thenN (wp_seq_k fun K1 hK1=>?_)))
  have j1:∀ m a w,St 29 m b0 [] [] a w→fc7_.j1=some r→K1 a w:=by
   intro m a w S h0
   delta fc7_.j1 at h0
   refine hK1 a w (c_region (s_as1 S rfl fun a S=>c_end (wp_ret ?_)))
   obtain rfl:=sI h0
   exact b_ret1 (d:=(.b false)) S rfl rfl (S.rt hb)
  refine c_region (s_mv1 S rfl fun a S=>s_lenS S rfl underlying22 rfl fun a S=>s_mv1 S rfl fun a S=>c_end (wp_block ?_))
  refine c_loop (fun q1 a w=>∃ m y1,St 29 m b0 [(9,(.i y1)),(8,(.i ((x1).length:Int))),(0,(.q Y39 ch_0_0 ch_0_1 x1))] [] a w∧fc7_.l1 x1 q1 y1=some r) ?_ ?_ (k:=k) ⟨_,0,(S.sb rfl .nil),h1⟩
  ·rintro a w ⟨m,y1,S,h0⟩
   exact (nomatch (show (none:Option Bool)=some r from h0))
  ·clear S h1
   rintro q1 a w ⟨m,y1,S,h0⟩
   replace h0:fc7_.b1 x1 (fc7_.l1 x1 q1) y1=some r:=h0
   delta fc7_.b1 at h0
   refine c_region (s_bi S rfl fun a S=>c_end (wp_seq ?_))
   rcases ite_of h0 with ⟨c2,h1⟩ | ⟨c2,h1⟩
   ·refine c_condT S rfl c2 (wp_skip (x_thenN (wp_seq (wp_block (c_region (s_mv1 S rfl fun a S=>s_as1 S rfl fun a S=>c_end (wp_seq_k fun K2 hK2=>?_)))))))
    have j2:∀ m y2 a w,St 29 m b0 [(27,(.b y2)),(9,(.i y1)),(8,(.i ((x1).length:Int))),(0,(.q Y39 ch_0_0 ch_0_1 x1))] [] a w→fc7_.j2 y1 (fc7_.l1 x1 q1) y2=some r→K2 a w:=by
     intro m y2 a w S h0
     delta fc7_.j2 at h0
     refine hK2 a w ?_
     rcases ite_of h0 with ⟨c3,h1⟩ | ⟨c3,h1⟩
     ·refine c_condT S rfl c3 (c_region (s_as1 S rfl fun a S=>c_end (wp_ret (x_blockR (x_thenR (x_thenR (x_blockR (x_thenR ?_))))))))
      obtain rfl:=sI h1
      exact b_ret1 (d:=(.b true)) S rfl rfl (S.rt hb)
     ·refine c_condF S rfl c3 (wp_skip (x_blockN (x_thenN (c_region' (s_bi S rfl fun a S=>s_mv1 S rfl fun a S=>c_end' (x_thenN ?_))))))
      exact ⟨_,(wr .i64 (y1+1)),(S.sb rfl .nil),h1⟩
    refine c_region' (s_mv2 S rfl fun a S=>?_)
    obtain ⟨c4,h2⟩:=chk_of h1; clear h1
    refine s_iaddrS S rfl rfl rfl underlying22 T39 c4.1 c4.2 rfl fun p1 a S=>s_faddrP S (tF:=(Ty.slice yb)) (y:=(gt x1 y1).e4) rfl I39_3 T36 (by decide) (fun m h=>(at_fst (at_snd (at_snd (at_snd (at_0 h)))))) rfl fun a S=>s_ldS S (fun c=>c) rfl T36 (fun _=>rfl) rfl fun A1 cp1 a S=>s_lenS S rfl underlying36 rfl fun a S=>s_bi S rfl fun a S=>s_mv1 S rfl fun a S=>?_
    rcases ite_of h2 with ⟨c5,h3⟩ | ⟨c5,h3⟩
    ·refine s_gF S (b:=(decide (3000<(((gt x1 y1).e4).length:Int)))) rfl rfl c5 rfl fun a S=>s_gF S (b:=(decide (3000<(((gt x1 y1).e4).length:Int)))) rfl rfl c5 rfl fun a S=>s_gF S (b:=(decide (3000<(((gt x1 y1).e4).length:Int)))) rfl rfl c5 rfl fun a S=>s_gF S (b:=(decide (3000<(((gt x1 y1).e4).length:Int)))) rfl rfl c5 rfl fun a S=>s_gF S (b:=(decide (3000<(((gt x1 y1).e4).length:Int)))) rfl rfl c5 rfl fun a S=>s_gF S (b:=(decide (3000<(((gt x1 y1).e4).length:Int)))) rfl rfl c5 rfl fun a S=>s_gF S (b:=(decide (3000<(((gt x1 y1).e4).length:Int)))) rfl rfl c5 rfl fun a S=>s_pick S (b:=true) (hc_of rfl c5) rfl rfl fun a S=>c_end' (x_thenN ?_)
     exact j2 _ true a w (S.sb rfl .nil) h3
    ·refine s_gT S (b:=(decide (3000<(((gt x1 y1).e4).length:Int)))) rfl rfl c5 (s_mv1 S rfl fun a S=>s_gT S (b:=(decide (3000<(((gt x1 y1).e4).length:Int)))) rfl rfl c5 (s_mv1 S rfl fun a S=>s_gT S (b:=(decide (3000<(((gt x1 y1).e4).length:Int)))) rfl rfl c5 (s_iaddrS S rfl rfl rfl underlying22 T39 c4.1 c4.2 rfl fun p2 a S=>s_gT S (b:=(decide (3000<(((gt x1 y1).e4).length:Int)))) rfl rfl c5 (s_faddrP S (tF:=(Ty.slice Y82)) (y:=(gt x1 y1).t4) rfl I39_4 T37 (by decide) (fun m h=>(at_snd (at_snd (at_snd (at_snd (at_0 h)))))) rfl fun a S=>s_gT S (b:=(decide (3000<(((gt x1 y1).e4).length:Int)))) rfl rfl c5 (s_ldS S (fun c=>c) rfl T37 (fun _=>rfl) rfl fun A2 cp2 a S=>s_gT S (b:=(decide (3000<(((gt x1 y1).e4).length:Int)))) rfl rfl c5 (s_lenS S rfl underlying37 rfl fun a S=>s_gT S (b:=(decide (3000<(((gt x1 y1).e4).length:Int)))) rfl rfl c5 (s_bi S rfl fun a S=>s_pick S (b:=false) (hc_of rfl c5) rfl rfl fun a S=>c_end' (x_thenN ?_))))))))
     exact j2 _ (decide (100<(((gt x1 y1).t4).length:Int))) a w (S.sb rfl .nil) h3
   ·refine c_condF S rfl c2 (wp_exit (x_thenX (x_thenX (x_blockX (x_thenN ?_)))))
    exact j1 _ a w (S.sub tv .nil) h1
abbrev fe7_.Ty:Type:=(List Int)→Option (List Int)
def fe7_.Ctr (s:fe7_.Ty):Prop:=∀ {x1:List Int} {r:List Int} (h0:s x1=some r) {mi:Mem} {w0:World},CtrB Try.prog 52 [(.a4 x1)] [] (fun (ch:Unit)=>((.agg [.ints .i64 r 32]):D)) (fun (ch:Unit)=>[]) mi w0
def fe7_.j1 (y1:List Int):Option (List Int):=some y1
def fe7_.b1 (x1:List Int)(rec1:Int→(List Int)→Option (List Int))(y4:Int)(y5:List Int):Option (List Int):=if (decide (y4<32))=true then (if (0:Int)≤(wr .i64 (Int.tdiv y4 8))∧(wr .i64 (Int.tdiv y4 8))<4 then (if (0:Int)≤(wr .i64 (8*(Int.tmod y4 8))) then (if (0:Int)≤y4∧y4<32 then (rec1 (wr .i64 (y4+1)) (y5.set (Int.toNat y4) (wr .i64 (Int.tmod (shr (rd x1 (wr .i64 (Int.tdiv y4 8))) (min (Int.toNat (wr .i64 (8*(Int.tmod y4 8)))) 64)) 256)))) else none) else none) else none) else (fe7_.j1 y5)
def fe7_.l1 (x1:List Int):Nat→Int→(List Int)→Option (List Int)
  | 0,_,_=>none
  | q+1,y4,y5=>fe7_.b1 x1 (fe7_.l1 x1 q) y4 y5
def fe7_.f (k:Nat)(x1:List Int):Option (List Int):=fe7_.l1 x1 k 0 [0,0,0,0,0,0,0,0,0,0,0,0,0,0,0,0,0,0,0,0,0,0,0,0,0,0,0,0,0,0,0,0]
theorem fe7_.ok (k:Nat):fe7_.Ctr (fe7_.f k):=by
 intro x1 r h0 mi w0 ok hm
 delta fe7_.f at h0
 refine c_enterZ (n:=23) ok hm func52 rfl rfl rfl fun b0 hb a S=>c_region (s_box S rfl rfl rfl fun g1 a w S=>s_alloc S Z105 rfl ⟨rfl,tv⟩ rfl fun g2 a w S=>c_end (c_region (s_build S (ds:=[]) (dv:=(.agg [.ints .i64 z32 32])) rfl (fun _=>by kernel_rfl) ⟨rfl,tv⟩ rfl fun a S=>s_alloc S Z105 rfl ⟨rfl,tv⟩ rfl fun g3 a w S=>s_storeJ S 0 rfl rfl rfl rfl .h T105 rfl rfl fun w S=>c_end (wp_seq_k fun K1 hK1=>?_))))
 have j1:∀ m g13 g14 y1 a w,St 23 m b0 [(3,(.p g13)),(2,(.p g14))] [Res.cells g13 105 [.ints .i64 y1 32],Res.cells g14 105 [.ints .i64 z32 32]] a w→fe7_.j1 y1=some r→K1 a w:=by
  intro m g13 g14 y1 a w S h0
  delta fe7_.j1 at h0
  refine hK1 a w (c_region (s_loada S rfl .h T105 (s':=[.ints .i64 y1 32]) rfl rfl fun a S=>s_store S rfl rfl rfl (s':=[.ints .i64 y1 32]) .h1 T105 rfl rfl fun w S=>c_end (wp_ret ?_)))
  obtain rfl:=sI h0
  exact b_ret1 (d:=(.agg [.ints .i64 y1 32])) S rfl (resD_cell rfl .h1 T105 rfl rfl) (S.rt hb)
 refine c_region (s_as1 S rfl fun a S=>c_end (wp_block ?_))
 refine c_loop (fun q1 a w=>∃ m y4 g21 g22 g23 y5,St 23 m b0 [(4,(.i y4)),(3,(.p g21)),(2,(.p g22)),(1,(.p g23))] [Res.cells g21 105 [.ints .i64 y5 32],Res.cells g22 105 [.ints .i64 z32 32],Res.cells g23 35 [.w4 x1]] a w∧fe7_.l1 x1 q1 y4 y5=some r) ?_ ?_ (k:=k) ⟨_,0,g3,g2,g1,z32,(S.sb rfl (.c0 (.c0 (.c0 .n)))),h0⟩
 ·rintro a w ⟨m,y4,g21,g22,g23,y5,S,h0⟩
  exact (nomatch (show (none:Option (List Int))=some r from h0))
 ·clear S h0
  rintro q1 a w ⟨m,y4,g21,g22,g23,y5,S,h0⟩
  replace h0:fe7_.b1 x1 (fe7_.l1 x1 q1) y4 y5=some r:=h0
  delta fe7_.b1 at h0
  refine wp_seq (c_region (s_mv1 S rfl fun a S=>s_bi S rfl fun a S=>c_end ?_))
  rcases ite_of h0 with ⟨c1,h1⟩ | ⟨c1,h1⟩
  ·refine c_condT S rfl c1 (wp_skip (x_thenN (wp_seq (wp_block (c_region' (s_mv2 S rfl fun a S=>s_quo S rfl rfl (by decide) rfl fun a S=>?_))))))
   obtain ⟨c2,h2⟩:=chk_of h1; clear h1
   refine s_iaddr S rfl rfl underlying35 T32 c2.1 c2.2 (mul1 _ _) rfl fun a S=>s_loadi S (i:=(wr .i64 (Int.tdiv y4 8))) rfl .h2 T32 .h rfl c2.1 c2.2 rfl fun a S=>s_mv1 S rfl fun a S=>s_rem S rfl rfl (by decide) rfl fun a S=>s_bi S rfl fun a S=>?_
   obtain ⟨c3,h3⟩:=chk_of h2; clear h2
   refine s_shr S (e:=(min (Int.toNat (wr .i64 (8*(Int.tmod y4 8)))) 64)) rfl rfl c3 rfl rfl fun a S=>s_rem S rfl rfl (by decide) rfl fun a S=>s_conv S rfl rfl underlying3 rfl fun a S=>?_
   obtain ⟨c4,h4⟩:=chk_of h3; clear h3
   refine s_iaddr S rfl rfl underlying105 T3 c4.1 c4.2 (mul1 _ _) rfl fun a S=>s_storei S (i:=y4) rfl rfl .h T3 .h rfl c4.1 c4.2 fun w S=>c_end' (x_blockN (x_thenN (c_region' (s_mv1 S rfl fun a S=>s_bi S rfl fun a S=>s_as1 S rfl fun a S=>c_end' (x_thenN ?_)))))
   exact ⟨_,(wr .i64 (y4+1)),g21,g22,g23,(y5.set (Int.toNat y4) (wr .i64 (Int.tmod (shr (rd x1 (wr .i64 (Int.tdiv y4 8))) (min (Int.toNat (wr .i64 (8*(Int.tmod y4 8)))) 64)) 256))),(S.sb rfl (.c0 (.c0 (.c0 .n)))),h4⟩
  ·refine c_condF S rfl c1 (wp_exit (x_thenX (x_thenX (x_blockX (x_thenN ?_)))))
   exact j1 _ g21 g22 y5 a w (S.sb rfl (.c0 (.c0 .n))) h1
abbrev fb8_.Ty:Type:=(List Int)→(List Int)→Option Int
def fb8_.Ctr (s:fb8_.Ty):Prop:=∀ {x1:List Int} {x2:List Int} {r:Int} (h0:s x1 x2=some r) {mi:Mem} {w0:World},CtrB Try.prog 51 [(.agg [.ints .i64 x1 32]),(.agg [.ints .i64 x2 32])] [] (fun (ch:Unit)=>((.i r):D)) (fun (ch:Unit)=>[]) mi w0
def fb8_.j1:Option Int:=some 0
def fb8_.b1 (x1:List Int)(x2:List Int)(rec1:Int→Option Int)(y1:Int):Option Int:=if (decide (0≤y1))=true then (if (0:Int)≤y1∧y1<32 then (if (decide ((rd x1 y1)<(rd x2 y1)))=true then (some (-1)) else (if (decide ((rd x2 y1)<(rd x1 y1)))=true then (some 1) else (rec1 (wr .i64 (y1 - 1))))) else none) else fb8_.j1
def fb8_.l1 (x1:List Int)(x2:List Int):Nat→Int→Option Int
  | 0,_=>none
  | q+1,y1=>fb8_.b1 x1 x2 (fb8_.l1 x1 x2 q) y1
def fb8_.f (k:Nat)(x1:List Int)(x2:List Int):Option Int:=fb8_.l1 x1 x2 k 31
theorem fb8_.ok (k:Nat):fb8_.Ctr (fb8_.f k):=by
 intro x1 x2 r h0 mi w0 ok hm
 delta fb8_.f at h0
 refine c_enterZ (n:=24) ok hm func51 rfl rfl rfl fun b0 hb a S=>c_region (s_box S rfl rfl rfl fun g1 a w S=>s_box S rfl rfl rfl fun g2 a w S=>s_as1 S rfl fun a S=>c_end (wp_seq_k fun K1 hK1=>?_))
 have j1:∀ m a w,St 24 m b0 [] [] a w→fb8_.j1=some r→K1 a w:=by
  intro m a w S h0
  delta fb8_.j1 at h0
  refine hK1 a w (c_region (s_as1 S rfl fun a S=>c_end (wp_ret ?_)))
  obtain rfl:=sI h0
  exact b_ret1 (d:=(.i 0)) S rfl rfl (S.rt hb)
 refine c_region (s_as1 S rfl fun a S=>c_end (wp_block ?_))
 refine c_loop (fun q1 a w=>∃ m y1 g13 g14,St 24 m b0 [(5,(.i y1)),(3,(.p g13)),(2,(.p g14))] [Res.cells g13 105 [.ints .i64 x2 32],Res.cells g14 105 [.ints .i64 x1 32]] a w∧fb8_.l1 x1 x2 q1 y1=some r) ?_ ?_ (k:=k) ⟨_,31,g2,g1,(S.sb rfl (.c0 (.c0 .n))),h0⟩
 ·rintro a w ⟨m,y1,g13,g14,S,h0⟩
  exact (nomatch (show (none:Option Int)=some r from h0))
 ·clear S h0
  rintro q1 a w ⟨m,y1,g13,g14,S,h0⟩
  replace h0:fb8_.b1 x1 x2 (fb8_.l1 x1 x2 q1) y1=some r:=h0
  delta fb8_.b1 at h0
  refine wp_seq (c_region (s_mv1 S rfl fun a S=>s_bi S rfl fun a S=>c_end ?_))
  rcases ite_of h0 with ⟨c1,h1⟩ | ⟨c1,h1⟩
  ·refine c_condT S rfl c1 (wp_skip (x_thenN (wp_seq (wp_block (wp_seq ?_)))))
   refine wp_seq (c_hS S (.tk 0 7 .done) 7 (.c0 (.c0 .n)) ⟨Res.stay_cells,Res.stay_cells,tv⟩ [(5,(.i y1)),(3,(.p g13)),(2,(.p g14))] rfl (by kernel_rfl) ?_); clear S; intro w S CL hw le
   refine h_mv1 S CL hw le rfl tv fun a S CL=>?_
   obtain ⟨c2,h2⟩:=chk_of h1; clear h1
   refine h_iaddr S CL hw le (subR rfl) rfl rfl underlying105 T3 c2.1 c2.2 (mul1 _ _) rfl rfl tv fun a S CL=>h_loadi S CL hw le (subR rfl) (i:=y1) rfl .h1 T3 .h rfl c2.1 c2.2 rfl rfl tv fun a S CL=>h_mv1 S CL hw le rfl tv fun a S CL=>h_iaddr S CL hw le (subR rfl) rfl rfl underlying105 T3 c2.1 c2.2 (mul1 _ _) rfl rfl tv fun a S CL=>h_loadi S CL hw le (subR rfl) (i:=y1) rfl .h T3 .h rfl c2.1 c2.2 rfl rfl tv fun a S CL=>h_bin S CL hw le (subR rfl) rfl rfl rfl rfl rfl tv fun a S CL=>?_
   refine h_done ?_; clear CL hw le
   refine x_thenN ?_
   rcases ite_of h2 with ⟨c3,h3⟩ | ⟨c3,h3⟩
   ·refine c_condT S rfl c3 (c_region (s_as1 S rfl fun a S=>c_end (wp_ret (x_thenR (x_blockR (x_thenR (x_thenR (x_blockR (x_thenR ?_)))))))))
    obtain rfl:=sI h3
    exact b_ret1 (d:=(.i (-1))) S rfl rfl (S.rt hb)
   ·refine c_condF S rfl c3 (wp_skip (x_thenN ?_))
    refine wp_seq (c_hS S (.tk 0 7 .done) 7 (.c0 (.c0 .n)) ⟨Res.stay_cells,Res.stay_cells,tv⟩ [(5,(.i y1)),(3,(.p g13)),(2,(.p g14))] rfl (by kernel_rfl) ?_); clear S; intro w S CL hw le
    refine h_mv1 S CL hw le rfl tv fun a S CL=>h_iaddr S CL hw le (subR rfl) rfl rfl underlying105 T3 c2.1 c2.2 (mul1 _ _) rfl rfl tv fun a S CL=>h_loadi S CL hw le (subR rfl) (i:=y1) rfl .h1 T3 .h rfl c2.1 c2.2 rfl rfl tv fun a S CL=>h_mv1 S CL hw le rfl tv fun a S CL=>h_iaddr S CL hw le (subR rfl) rfl rfl underlying105 T3 c2.1 c2.2 (mul1 _ _) rfl rfl tv fun a S CL=>h_loadi S CL hw le (subR rfl) (i:=y1) rfl .h T3 .h rfl c2.1 c2.2 rfl rfl tv fun a S CL=>h_bin S CL hw le (subR rfl) rfl rfl rfl rfl rfl tv fun a S CL=>?_
    refine h_done ?_; clear CL hw le
    refine x_thenN ?_
    rcases ite_of h3 with ⟨c4,h4⟩ | ⟨c4,h4⟩
    ·refine c_condT S rfl c4 (c_region (s_as1 S rfl fun a S=>c_end (wp_ret (x_blockR (x_thenR (x_thenR (x_blockR (x_thenR ?_))))))))
     obtain rfl:=sI h4
     exact b_ret1 (d:=(.i 1)) S rfl rfl (S.rt hb)
    ·refine c_condF S rfl c4 (wp_skip (x_blockN (x_thenN (c_region' (s_mv1 S rfl fun a S=>s_bi S rfl fun a S=>s_as1 S rfl fun a S=>c_end' (x_thenN ?_))))))
     exact ⟨_,(wr .i64 (y1 - 1)),g13,g14,(S.sb rfl (.c0 (.c0 .n))),h4⟩
  ·refine c_condF S rfl c1 (wp_exit (x_thenX (x_thenX (x_blockX (x_thenN ?_)))))
   exact j1 _ a w (S.sub tv .nil) h1
abbrev fd6_.Ty:Type:=(List Int)→(List Int)→Option Bool
def fd6_.Ctr (s:fd6_.Ty):Prop:=∀ {x1:List Int} {x2:List Int} {r:Bool} (h0:s x1 x2=some r) {mi:Mem} {w0:World},CtrB Try.prog 40 [(.a4 x1),(.a4 x2)] [] (fun (ch:Unit)=>((.b r):D)) (fun (ch:Unit)=>[]) mi w0
def fd6_.f (k:Nat)(x1:List Int)(x2:List Int):Option Bool:=(fe7_.f k x1).bind fun t1=>((fe7_.f k x2).bind fun t2=>((fb8_.f k t1 t2).bind fun t3=>(some (decide (t3<0)))))
theorem fd6_.ok (k:Nat):fd6_.Ctr (fd6_.f k):=by
 intro x1 x2 r h0 mi w0 ok hm
 delta fd6_.f at h0
 refine c_enterZ (n:=11) ok hm func40 rfl rfl rfl fun b0 hb a S=>c_region (s_box S rfl rfl rfl fun g1 a w S=>s_box S rfl rfl rfl fun g2 a w S=>s_as1 S rfl fun a S=>c_end ?_)
 refine wp_seq (c_hS S (.take 0 (.take 2 (.alts (.run 1 true (.alts (.run 3 true (.alts (.run 4 true (.take 5 (.take 6 .done)) .nil)) .nil)) .nil)))) 7 (.c0 (.c0 .n)) ⟨Res.stay_cells,Res.stay_cells,tv⟩ [(3,(.p g2)),(2,(.p g1))] rfl (by kernel_rfl) ?_); clear S; intro w S CL hw le
 refine h_loada S CL hw le (subR rfl) rfl .h1 T35 (s':=[.w4 x1]) rfl rfl rfl tv fun a S CL=>h_loada S CL hw le (subR rfl) rfl .h T35 (s':=[.w4 x2]) rfl rfl rfl tv fun a S CL=>h_run' S rfl tv (bindX h0 fun t1 et1 h1=>s_callK S (fe7_.ok k et1) N52 rfl .pre (fun _=> .n) rfl fun ch1 m le1 a w S=>?_)
 replace le:=le.trans le1
 refine CL.bk hw S (.c0 (.c0 .n)) le fun hw=>h_run' S rfl tv (bindX h1 fun t2 et2 h2=>s_callK S (fe7_.ok k et2) N52 rfl .pre (fun _=> .n) rfl fun ch2 m le1 a w S=>?_)
 replace le:=le.trans le1
 refine CL.bk hw S (.c0 (.c0 .n)) le fun hw=>h_run' S rfl tv (bindX h2 fun t3 et3 h3=>s_callK S (fb8_.ok k et3) N51 rfl .pre (fun _=> .n) rfl fun ch3 m le1 a w S=>?_)
 replace le:=le.trans le1
 refine CL.bk hw S (.c0 (.c0 .n)) le fun hw=>?_
 replace CL:=CL.add (t:=9) (d:=(.i t3)) S rfl rfl
 refine h_bin S CL hw le (subR rfl) rfl rfl rfl rfl rfl tv fun a S CL=>h_assign S CL hw le (subR rfl) rfl rfl rfl tv fun a S CL=>?_
 refine h_done ?_; clear CL hw le
 refine x_thenN (wp_ret ?_)
 obtain rfl:=sI h3
 exact b_ret1 (d:=(.b (decide (t3<0)))) S rfl rfl (S.rt hb)
abbrev fc5_.Ty:Type:=W1→Option Bool
def fc5_.Ctr (s:fc5_.Ty):Prop:=∀ {x1:W1} {ch_0_0:Option Addr} {ch_0_1:Nat} {ch_0_2:Option Addr} {ch_0_3:Nat} {r:Bool} (h0:s x1=some r) {mi:Mem} {w0:World},CtrB Try.prog 23 [(.agg (Y39.segs x1 ((),(),(),(ch_0_0,ch_0_1),(ch_0_2,ch_0_3))))] [] (fun (ch:Unit)=>((.b r):D)) (fun (ch:Unit)=>[]) mi w0
def fc5_.j1:Option Bool:=some true
def fc5_.j2 (y1:Int)(rec1:Int→Option Bool)(y2:Bool):Option Bool:=if y2=true then (some false) else (rec1 (wr .i64 (y1+1)))
def fc5_.b1 (k:Nat)(x1:W1)(rec1:Int→Option Bool)(y1:Int):Option Bool:=if (decide (y1<((x1.2.2.2.2).length:Int)))=true then (if (0:Int)≤y1∧y1<((x1.2.2.2.2).length:Int) then (if (decide ((gt x1.2.2.2.2 y1).2=[0,0,0,0]))=true then (some false) else (if (decide (0<y1))=true then (if (0:Int)≤(wr .i64 (y1 - 1))∧(wr .i64 (y1 - 1))<((x1.2.2.2.2).length:Int) then ((fd6_.f k ((gt x1.2.2.2.2 (wr .i64 (y1 - 1))).1) ((gt x1.2.2.2.2 y1).1)).bind fun t1=>(fc5_.j2 y1 rec1 (!t1))) else none) else (fc5_.j2 y1 rec1 false))) else none) else fc5_.j1
def fc5_.l1 (k:Nat)(x1:W1):Nat→Int→Option Bool
  | 0,_=>none
  | q+1,y1=>fc5_.b1 k x1 (fc5_.l1 k x1 q) y1
def fc5_.f (k:Nat)(x1:W1):Option Bool:=fc5_.l1 k x1 k 0
theorem fc5_.ok (k:Nat):fc5_.Ctr (fc5_.f k):=by
 intro x1 ch_0_0 ch_0_1 ch_0_2 ch_0_3 r h0 mi w0 ok hm
 delta fc5_.f at h0
 refine c_enterZ (n:=38) ok hm func23 rfl rfl rfl fun b0 hb a S=>c_region (s_box S rfl rfl rfl fun g1 a w S=>s_as1 S rfl fun a S=>c_end (wp_seq_k fun K1 hK1=>?_))
 have j1:∀ m a w,St 38 m b0 [] [] a w→fc5_.j1=some r→K1 a w:=by
  intro m a w S h0
  delta fc5_.j1 at h0
  refine hK1 a w (c_region (s_as1 S rfl fun a S=>c_end (wp_ret ?_)))
  obtain rfl:=sI h0
  exact b_ret1 (d:=(.b true)) S rfl rfl (S.rt hb)
 refine c_region (s_fieldAddr S rfl I39_4 T37 (by decide) rfl rfl fun a S=>s_loadSl S rfl .h T37 (A:=ch_0_2) (len:=(x1.t4).length) (cap:=ch_0_3) rfl rfl fun a S=>s_lenS S rfl underlying37 rfl fun a S=>s_mv1 S rfl fun a S=>c_end (wp_block ?_))
 refine c_loop (fun q1 a w=>∃ m y1 g9,St 38 m b0 [(7,(.i y1)),(6,(.i ((x1.t4).length:Int))),(1,(.p g9))] [Res.cells g9 39 (Y39.segs x1 ((),(),(),(ch_0_0,ch_0_1),(ch_0_2,ch_0_3)))] a w∧fc5_.l1 k x1 q1 y1=some r) ?_ ?_ (k:=k) ⟨_,0,g1,(S.sb rfl (.c0 .n)),h0⟩
 ·rintro a w ⟨m,y1,g9,S,h0⟩
  exact (nomatch (show (none:Option Bool)=some r from h0))
 ·clear S h0
  rintro q1 a w ⟨m,y1,g9,S,h0⟩
  replace h0:fc5_.b1 k x1 (fc5_.l1 k x1 q1) y1=some r:=h0
  delta fc5_.b1 at h0
  refine c_region (s_bi S rfl fun a S=>c_end (wp_seq ?_))
  rcases ite_of h0 with ⟨c1,h1⟩ | ⟨c1,h1⟩
  ·refine c_condT S rfl c1 (wp_skip (x_thenN (wp_seq (wp_block (c_region (s_mv1 S rfl fun a S=>s_as1 S rfl fun a S=>c_end (wp_seq (c_region (s_fieldAddr S rfl I39_4 T37 (by decide) rfl rfl fun a S=>s_loadSl S rfl .h T37 (A:=ch_0_2) (len:=(x1.t4).length) (cap:=ch_0_3) rfl rfl fun a S=>s_mv1 S rfl fun a S=>?_)))))))))
   obtain ⟨c2,h2⟩:=chk_of h1; clear h1
   refine s_iaddrS S rfl rfl rfl underlying37 T82 c2.1 c2.2 rfl fun p1 a S=>s_faddrP S (tF:=(Ty.arr .u64 4)) (y:=(gt x1.t4 y1).2) rfl I82_1 T35 (by decide) (fun m h=>(at_snd (at_0 h))) rfl fun a S=>s_ldA S (fun (c:Unit)=>[.w4 ((gt x1.t4 y1).2)]) rfl T35 (fun _=>rfl) rfl fun ch1 a S=>?_
   refine s_build S (ds:=[]) (dv:=(.a4 [0,0,0,0])) rfl (fun _=>by kernel_rfl) ⟨rfl,tv⟩ rfl fun a S=>s_eqa S rfl rfl underlying35 underlying32 T32 Q35 rfl fun a S=>c_end ?_
   rcases ite_of h2 with ⟨c3,h3⟩ | ⟨c3,h3⟩
   ·refine c_condT S rfl c3 (c_region (s_as1 S rfl fun a S=>c_end (wp_ret (x_thenR (x_blockR (x_thenR (x_thenR (x_blockR (x_thenR ?_)))))))))
    obtain rfl:=sI h3
    exact b_ret1 (d:=(.b false)) S rfl rfl (S.rt hb)
   ·refine c_condF S rfl c3 (wp_skip (x_thenN (wp_seq_k fun K2 hK2=>?_)))
    have j2:∀ m y2 g10 a w,St 38 m b0 [(36,(.b y2)),(7,(.i y1)),(6,(.i ((x1.t4).length:Int))),(1,(.p g10))] [Res.cells g10 39 (Y39.segs x1 ((),(),(),(ch_0_0,ch_0_1),(ch_0_2,ch_0_3)))] a w→fc5_.j2 y1 (fc5_.l1 k x1 q1) y2=some r→K2 a w:=by
     intro m y2 g10 a w S h0
     delta fc5_.j2 at h0
     refine hK2 a w ?_
     rcases ite_of h0 with ⟨c4,h1⟩ | ⟨c4,h1⟩
     ·refine c_condT S rfl c4 (c_region (s_as1 S rfl fun a S=>c_end (wp_ret (x_blockR (x_thenR (x_thenR (x_blockR (x_thenR ?_))))))))
      obtain rfl:=sI h1
      exact b_ret1 (d:=(.b false)) S rfl rfl (S.rt hb)
     ·refine c_condF S rfl c4 (wp_skip (x_blockN (x_thenN (c_region' (s_bi S rfl fun a S=>s_mv1 S rfl fun a S=>c_end' (x_thenN ?_))))))
      exact ⟨_,(wr .i64 (y1+1)),g10,(S.sb rfl (.c0 .n)),h1⟩
    refine c_hS S (.tk 0 16 (.alts (.run 16 true (.take 17 (.take 18 .done)) .nil))) 19 (.c0 .n) ⟨Res.stay_cells,tv⟩ [(3,(.i y1)),(1,(.p g9))] rfl (by kernel_rfl) fun w S CL hw le=>?_
    refine h_mv1 S CL hw le rfl tv fun a S CL=>h_bin S CL hw le (subR rfl) rfl rfl rfl rfl rfl tv fun a S CL=>h_mv1 S CL hw le rfl tv fun a S CL=>?_
    rcases ite_of h3 with ⟨c5,h4⟩ | ⟨c5,h4⟩
    ·refine h_fieldAddr S CL hw le (subR rfl) rfl I39_4 T37 (by decide) rfl rfl rfl ⟨_,_,rfl,rfl,c5⟩ fun a S CL=>h_loadSl S CL hw le (subR rfl) rfl .h T37 (A:=ch_0_2) (len:=(x1.t4).length) (cap:=ch_0_3) rfl rfl rfl ⟨_,_,rfl,rfl,c5⟩ fun a S CL=>h_mv1 S CL hw le rfl ⟨_,_,rfl,rfl,c5⟩ fun a S CL=>h_bin S CL hw le (subR rfl) rfl rfl rfl rfl rfl ⟨_,_,rfl,rfl,c5⟩ fun a S CL=>?_
     obtain ⟨c6,h5⟩:=chk_of h4; clear h4
     refine h_iaddrS S CL hw le (subR rfl) rfl rfl rfl underlying37 T82 c6.1 c6.2 rfl rfl ⟨_,_,rfl,rfl,c5⟩ fun p4 a S CL=>h_faddrP S CL hw le (subR rfl) (tF:=(Ty.arr .u64 4)) (y:=(gt x1.t4 (wr .i64 (y1 - 1))).1) rfl I82_0 T35 (by decide) (fun m h=>(at_fst (at_0 h))) rfl rfl ⟨_,_,rfl,rfl,c5⟩ fun a S CL=>h_ldA S CL hw le (subR rfl) (fun (c:Unit)=>[.w4 ((gt x1.t4 (wr .i64 (y1 - 1))).1)]) rfl T35 (fun _=>rfl) rfl rfl ⟨_,_,rfl,rfl,c5⟩ fun ch2 a S CL=>?_
     refine h_fieldAddr S CL hw le (subR rfl) rfl I39_4 T37 (by decide) rfl rfl rfl ⟨_,_,rfl,rfl,c5⟩ fun a S CL=>h_loadSl S CL hw le (subR rfl) rfl .h T37 (A:=ch_0_2) (len:=(x1.t4).length) (cap:=ch_0_3) rfl rfl rfl ⟨_,_,rfl,rfl,c5⟩ fun a S CL=>h_mv1 S CL hw le rfl ⟨_,_,rfl,rfl,c5⟩ fun a S CL=>h_iaddrS S CL hw le (subR rfl) rfl rfl rfl underlying37 T82 c2.1 c2.2 rfl rfl ⟨_,_,rfl,rfl,c5⟩ fun p5 a S CL=>h_faddrP S CL hw le (subR rfl) (tF:=(Ty.arr .u64 4)) (y:=(gt x1.t4 y1).1) rfl I82_0 T35 (by decide) (fun m h=>(at_fst (at_0 h))) rfl rfl ⟨_,_,rfl,rfl,c5⟩ fun a S CL=>h_ldA S CL hw le (subR rfl) (fun (c:Unit)=>[.w4 ((gt x1.t4 y1).1)]) rfl T35 (fun _=>rfl) rfl rfl ⟨_,_,rfl,rfl,c5⟩ fun ch3 a S CL=>?_
     refine h_run' S rfl ⟨_,_,rfl,rfl,c5⟩ (bindX h5 fun t1 et1 h6=>s_callK S (fd6_.ok k et1) N40 rfl .pre (fun _=> .n) rfl fun ch4 m le1 a w S=>?_)
     replace le:=le.trans le1
     refine CL.bk hw S (.c0 .n) le fun hw=>?_
     replace CL:=CL.add (t:=34) (d:=(.b t1)) S rfl rfl
     refine h_not S CL hw le (subR rfl) rfl rfl rfl ⟨_,_,rfl,rfl,c5⟩ fun a S CL=>h_pick S CL hw le (subR rfl) (b:=true) (hc_of rfl c5) rfl rfl rfl tv fun a S CL=>?_
     refine h_done ?_; clear CL hw le
     refine x_thenN ?_
     exact j2 _ (!t1) g9 a w (S.sb rfl (.c0 .n)) h6
    ·refine h_sk8 S CL rfl (ne_bool c5) fun a S CL=>h_sk4 S CL rfl (ne_bool c5) fun a S CL=>h_sk1 S CL rfl (ne_bool c5) fun a S CL=>h_skipRt S rfl rfl rfl (ne_bool c5) rfl fun a S=>CL.bk hw S (.c0 .n) le fun hw=>?_
     replace CL:=CL.add (t:=34) (d:= .u) S rfl rfl
     refine h_sk1 S CL rfl (ne_bool c5) fun a S CL=>h_pick S CL hw le (subR rfl) (b:=false) (hc_of rfl c5) rfl rfl rfl tv fun a S CL=>?_
     refine h_done ?_; clear CL hw le
     refine x_thenN ?_
     exact j2 _ false g9 a w (S.sb rfl (.c0 .n)) h4
  ·refine c_condF S rfl c1 (wp_exit (x_thenX (x_thenX (x_blockX (x_thenN ?_)))))
   exact j1 _ a w (S.sub tv .nil) h1
abbrev fd1_.Ty:Type:=(List L39)→Option Bool
def fd1_.Ctr (s:fd1_.Ty):Prop:=∀ {x1:List L39} {ch_0_0:Option Addr} {ch_0_1:Nat} {r:Bool} (h0:s x1=some r) {mi:Mem} {w0:World},CtrB Try.prog 5 [(.q Y39 ch_0_0 ch_0_1 x1)] [] (fun (ch:Unit)=>((.b r):D)) (fun (ch:Unit)=>[]) mi w0
def fd1_.j1:Option Bool:=some true
def fd1_.b1 (k:Nat)(x1:List L39)(rec1:Int→Option Bool)(y1:Int):Option Bool:=if (decide (y1<((x1).length:Int)))=true then (if (0:Int)≤y1∧y1<((x1).length:Int) then ((fc5_.f k (gt x1 y1)).bind fun t4=>(if (!t4)=true then (some false) else (rec1 (wr .i64 (y1+1))))) else none) else fd1_.j1
def fd1_.l1 (k:Nat)(x1:List L39):Nat→Int→Option Bool
  | 0,_=>none
  | q+1,y1=>fd1_.b1 k x1 (fd1_.l1 k x1 q) y1
def fd1_.f (k:Nat)(x1:List L39):Option Bool:=(fc7_.f k x1).bind fun t1=>(if t1=true then (some false) else (fd1_.l1 k x1 k 0))
theorem fd1_.ok (k:Nat):fd1_.Ctr (fd1_.f k):=by
 intro x1 ch_0_0 ch_0_1 r h0 mi w0 ok hm
 delta fd1_.f at h0
 refine c_enterZ (n:=17) ok hm func5 rfl rfl rfl fun b0 hb a S=>c_region (s_as1 S rfl fun a S=>c_end (wp_seq (c_region (s_mv1 S rfl fun a S=>bindX h0 fun t1 et1 h1=>s_callK S (fc7_.ok k et1) N22 rfl .pre (fun _=> .n) rfl fun ch1 m le1 a w S=>c_end ?_))))
 rcases ite_of h1 with ⟨c1,h2⟩ | ⟨c1,h2⟩
 ·refine c_condT S rfl c1 (c_region (s_as1 S rfl fun a S=>c_end (wp_ret (x_thenR ?_))))
  obtain rfl:=sI h2
  exact b_ret1 (d:=(.b false)) S rfl rfl (S.rt hb)
 ·refine c_condF S rfl c1 (wp_skip (x_thenN (wp_seq_k fun K1 hK1=>?_)))
  have j1:∀ m a w,St 17 m b0 [] [] a w→fd1_.j1=some r→K1 a w:=by
   intro m a w S h0
   delta fd1_.j1 at h0
   refine hK1 a w (c_region (s_as1 S rfl fun a S=>c_end (wp_ret ?_)))
   obtain rfl:=sI h0
   exact b_ret1 (d:=(.b true)) S rfl rfl (S.rt hb)
  refine c_region (s_mv1 S rfl fun a S=>s_lenS S rfl underlying22 rfl fun a S=>s_mv1 S rfl fun a S=>c_end (wp_block ?_))
  refine c_loop (fun q1 a w=>∃ m y1,St 17 m b0 [(9,(.i y1)),(8,(.i ((x1).length:Int))),(7,(.q Y39 ch_0_0 ch_0_1 x1))] [] a w∧fd1_.l1 k x1 q1 y1=some r) ?_ ?_ (k:=k) ⟨_,0,(S.sb rfl .nil),h2⟩
  ·rintro a w ⟨m,y1,S,h0⟩
   exact (nomatch (show (none:Option Bool)=some r from h0))
  ·clear S h2
   rintro q1 a w ⟨m,y1,S,h0⟩
   replace h0:fd1_.b1 k x1 (fd1_.l1 k x1 q1) y1=some r:=h0
   delta fd1_.b1 at h0
   refine c_region (s_bi S rfl fun a S=>c_end (wp_seq ?_))
   rcases ite_of h0 with ⟨c2,h1⟩ | ⟨c2,h1⟩
   ·refine c_condT S rfl c2 (wp_skip (x_thenN (wp_seq (wp_block (c_region ?_)))))
    obtain ⟨c3,h2⟩:=chk_of h1; clear h1
    refine s_iaddrS S rfl rfl rfl underlying22 T39 c3.1 c3.2 rfl fun p1 a S=>s_ldA S (fun (c:Unit×Unit×Unit×(Option Addr×Nat)×(Option Addr×Nat))=>(Y39.segs (gt x1 y1) c)) rfl T39 (fun _=>rfl) rfl fun ch4 a S=>?_
    refine s_alloc S Z39 rfl ⟨rfl,rfl,rfl,rfl,rfl,tv⟩ rfl fun g1 a w S=>s_store S rfl rfl rfl (s':=(Y39.segs (gt x1 y1) ch4)) .h T39 rfl rfl fun w S=>c_end (c_region (s_loada S rfl .h T39 (s':=(Y39.segs (gt x1 y1) ch4)) rfl rfl fun a S=>bindX h2 fun t4 et4 h3=>s_callK S (fc5_.ok k et4) N23 rfl .pre (fun _=> .n) rfl fun ch5 m le1 a w S=>s_not S rfl rfl fun a S=>c_end ?_))
    rcases ite_of h3 with ⟨c4,h4⟩ | ⟨c4,h4⟩
    ·refine c_condT S rfl c4 (c_region (s_as1 S rfl fun a S=>c_end (wp_ret (x_blockR (x_thenR (x_thenR (x_blockR (x_thenR ?_))))))))
     obtain rfl:=sI h4
     exact b_ret1 (d:=(.b false)) S rfl rfl (S.rt hb)
    ·refine c_condF S rfl c4 (wp_skip (x_blockN (x_thenN (c_region' (s_bi S rfl fun a S=>s_mv1 S rfl fun a S=>c_end' (x_thenN ?_))))))
     exact ⟨_,(wr .i64 (y1+1)),(S.sb rfl .nil),h4⟩
   ·refine c_condF S rfl c2 (wp_exit (x_thenX (x_thenX (x_blockX (x_thenN ?_)))))
    exact j1 _ a w (S.sub tv .nil) h1
abbrev fe3_.Ty:Type:=Option W2
def fe3_.Ctr (s:fe3_.Ty):Prop:=∀ {r:W2} (h0:s=some r) {mi:Mem} {w0:World},CtrB Try.prog 7 [(.v .nilIface)] [] (fun (ch:W3)=>((.v (.pointer (some ⟨ch.1,0,none⟩))):D)) (fun (ch:W3)=>(MS1 r ch)) mi w0
def fe3_.f:Option W2:=some (([]:List L39),(([]:List ((List Int)×Option Nat)),([]:List L76),([]:List (List ((List Int)×(List Int)))),([]:List (List ((List Int)×Bool)))),0,([]:List L51),([]:List Clo),([]:List (List Int)))
theorem fe3_.ok:fe3_.Ctr (fe3_.f):=by
 intro r h0 mi w0 ok hm
 delta fe3_.f at h0
 refine c_enterZ (n:=11) ok hm func7 rfl rfl rfl fun b0 hb a S=>c_region (s_as1 S rfl fun a S=>c_end (wp_seq (c_region (s_mv1 S rfl fun a S=>s_eqNN S rfl underlying45 rfl fun a S=>c_end (c_condT S rfl rfl (c_region' (s_bldS S (ds:=[]) (zs:=[.s none 0 0]) (s':=[.s none 0 0]) rfl underlying68 P68 Z68 ⟨rfl,tv⟩ rfl rfl fun a S=>?_)))))))
 replace S:=S.slotN 5 0 Y39 rfl rfl
 refine s_mkI S (s:=[.q Y39 none 0 ([]:List L39)]) (v:=(.agg (cellsOf [.q Y39 none 0 ([]:List L39)]).toArray)) rfl rfl rfl (by kernel_rfl) rfl fun a S=>?_
 refine s_as1 S rfl fun a S=>c_end' (x_thenN (c_region (s_mv1 S rfl fun a S=>s_makeMap (α:=List Int) (β:=Option Nat) S true (Ty.arr .u8 20) false (Ty.pid ([]:List Nat)) rfl fun g1 a w S=>?_)))
 replace S:=S.fam0 (fun g_ kvs_=>Res.map true (Ty.arr .u64 4) false Ty.bool g_ kvs_) (one_map true (Ty.arr .u64 4) false Ty.bool)
 replace S:=S.fam0 (fun g_ kvs_=>Res.map true (Ty.arr .u64 4) true (Ty.arr .u64 4) g_ kvs_) (one_map true (Ty.arr .u64 4) true (Ty.arr .u64 4))
 replace S:=S.fam0 (Res.struct (YE76 ([]:List Nat) ([]:List Nat)) 76) (one_struct _ _)
 refine s_bldS S (ds:=[(0,(.rf (.iface 68 (.agg (cellsOf [.q Y39 none 0 ([]:List L39)]).toArray)) (IfR [.q Y39 none 0 ([]:List L39)]))),(1,(.v (.map (some g1))))]) (zs:=[.one .nilIface, .one (.map none), .i 0, .s none 0 0, .s none 0 0, .s none 0 0]) (s':=[.rf (.iface 68 (.agg (cellsOf [.q Y39 none 0 ([]:List L39)]).toArray)) (IfR [.q Y39 none 0 ([]:List L39)]), .one (.map (some g1)), .i 0, .s none 0 0, .s none 0 0, .s none 0 0]) rfl underlying72 P72 Z72 ⟨rfl,rfl,rfl,rfl,rfl,rfl,tv⟩ rfl rfl fun a S=>s_box S rfl rfl rfl fun g2 a w S=>s_as1 S rfl fun a S=>c_end (wp_ret ?_)
 replace S:=S.nilrow Y51 51
 replace S:=S.nilrow (YC g2 ([]:List Nat) ([]:List Nat) ([]:List Nat)) 1
 replace S:=S.nilrow (Ty.arr .u8 20) 31
 obtain rfl:=sI h0
 exact b_ret1 (d:=(.p g2)) S rfl rfl fun ok=>S.retX (Hx:=[]) hb _ _ ((g2,none,0,g1,([]:List Nat),([]:List Nat),([]:List Nat),none,0,0,none,0,0,none,0,0):W3) (.c3 (.c6 (.c3 (.c3 (.c3 (.c2 (.c1 (.c0 .n)))))))) ok
abbrev fc4_.Ty:Type:=(List L39)→(List Int)→Option W4
def fc4_.Ctr (s:fc4_.Ty):Prop:=∀ {x1:List L39} {x2:List Int} {ch_0_0:Option Addr} {ch_0_1:Nat} {r:W4} (h0:s x1 x2=some r) {mi:Mem} {w0:World},CtrB Try.prog 102 [(.agg [.q Y39 ch_0_0 ch_0_1 x1]),(.agg [.b20 x2])] [] (fun (ch:W5)=>((.tup [(true,(Y39.segs r.1 ((),(),(),(ch.1,ch.2.1),ch.t2))),(false,[.b r.2])]):D)) (fun (ch:W5)=>[]) mi w0
def fc4_.j1 (x2:List Int):Option W4:=some ((x2,0,[0,0,0,0],([]:List Int),([]:List ((List Int)×(List Int)))),true)
def fc4_.b1 (x1:List L39)(x2:List Int)(rec1:Int→Option W4)(y1:Int):Option W4:=if (decide (y1<((x1).length:Int)))=true then (if (0:Int)≤y1∧y1<((x1).length:Int) then (if (decide ((gt x1 y1).1=x2))=true then (some (gt x1 y1,true)) else (rec1 (wr .i64 (y1+1)))) else none) else (fc4_.j1 x2)
def fc4_.l1 (x1:List L39)(x2:List Int):Nat→Int→Option W4
  | 0,_=>none
  | q+1,y1=>fc4_.b1 x1 x2 (fc4_.l1 x1 x2 q) y1
def fc4_.f (k:Nat)(x1:List L39)(x2:List Int):Option W4:=fc4_.l1 x1 x2 k 0
theorem fc4_.ok (k:Nat):fc4_.Ctr (fc4_.f k):=by
 intro x1 x2 ch_0_0 ch_0_1 r h0 mi w0 ok hm
 delta fc4_.f at h0
 refine c_enterZ (n:=23) ok hm func102 rfl rfl rfl fun b0 hb a S=>c_region (s_box S rfl rfl rfl fun g1 a w S=>s_box S rfl rfl rfl fun g2 a w S=>s_alloc S Z39 rfl ⟨rfl,rfl,rfl,rfl,rfl,tv⟩ rfl fun g3 a w S=>s_as1 S rfl fun a S=>c_end (wp_seq_k fun K1 hK1=>?_))
 have j1:∀ m g12 g13 a w,St 23 m b0 [(4,(.p g12)),(3,(.p g13))] [Res.cells g12 39 [.b20 z20, .w 0, .w4 [0,0,0,0], .s none 0 0, .s none 0 0],Res.cells g13 31 [.b20 x2]] a w→fc4_.j1 x2=some r→K1 a w:=by
  intro m g12 g13 a w S h0
  delta fc4_.j1 at h0
  refine hK1 a w (c_region (s_loada S rfl .h1 T31 (s':=[.b20 x2]) rfl rfl fun a S=>s_bldS S (ds:=[(0,(.agg [.b20 x2]))]) (zs:=[.b20 z20, .w 0, .w4 [0,0,0,0], .s none 0 0, .s none 0 0]) (s':=[.b20 x2, .w 0, .w4 [0,0,0,0], .s none 0 0, .s none 0 0]) rfl underlying39 P39 Z39 ⟨rfl,rfl,rfl,rfl,rfl,tv⟩ rfl rfl fun a S=>s_store S rfl rfl rfl (s':=[.b20 x2, .w 0, .w4 [0,0,0,0], .s none 0 0, .s none 0 0]) .h T39 rfl rfl fun w S=>s_as1 S rfl fun a S=>c_end (wp_ret ?_)))
  replace S:=S.cellN 3 yb .h rfl
  replace S:=S.cellN 4 Y82 .h rfl
  obtain rfl:=sI h0
  exact b_ret2 (d1:=(.agg (Y39.segs (x2,0,[0,0,0,0],([]:List Int),([]:List ((List Int)×(List Int)))) ((),(),(),(none,0),(none,0))))) (d2:=(.b true)) S rfl (resD_cell rfl .h T39 rfl rfl) rfl fun ok1 ok2=>S.retX (Hx:=[]) hb _ _ ((none,0,none,0):W5) .nil ⟨ok1,⟨ok2,tv⟩,tv⟩
 refine c_region (s_fieldAddr S rfl I68_0 T22 (by decide) rfl rfl fun a S=>s_loadSl S rfl .h2 T22 (A:=ch_0_0) (len:=(x1).length) (cap:=ch_0_1) rfl rfl fun a S=>s_lenS S rfl underlying22 rfl fun a S=>s_mv1 S rfl fun a S=>c_end (wp_block ?_))
 refine c_loop (fun q1 a w=>∃ m y1 g20 g21,St 23 m b0 [(11,(.i y1)),(10,(.i ((x1).length:Int))),(9,(.q Y39 ch_0_0 ch_0_1 x1)),(4,(.p g20)),(3,(.p g21))] [Res.cells g20 39 [.b20 z20, .w 0, .w4 [0,0,0,0], .s none 0 0, .s none 0 0],Res.cells g21 31 [.b20 x2]] a w∧fc4_.l1 x1 x2 q1 y1=some r) ?_ ?_ (k:=k) ⟨_,0,g3,g2,(S.sb rfl (.c0 (.c0 .n))),h0⟩
 ·rintro a w ⟨m,y1,g20,g21,S,h0⟩
  exact (nomatch (show (none:Option W4)=some r from h0))
 ·clear S h0
  rintro q1 a w ⟨m,y1,g20,g21,S,h0⟩
  replace h0:fc4_.b1 x1 x2 (fc4_.l1 x1 x2 q1) y1=some r:=h0
  delta fc4_.b1 at h0
  refine c_region (s_bi S rfl fun a S=>c_end (wp_seq ?_))
  rcases ite_of h0 with ⟨c1,h1⟩ | ⟨c1,h1⟩
  ·refine c_condT S rfl c1 (wp_skip (x_thenN (wp_seq (wp_block (c_region ?_)))))
   obtain ⟨c2,h2⟩:=chk_of h1; clear h1
   refine s_iaddrS S rfl rfl rfl underlying22 T39 c2.1 c2.2 rfl fun p1 a S=>s_ldA S (fun (c:Unit×Unit×Unit×(Option Addr×Nat)×(Option Addr×Nat))=>(Y39.segs (gt x1 y1) c)) rfl T39 (fun _=>rfl) rfl fun ch1 a S=>?_
   refine s_alloc S Z39 rfl ⟨rfl,rfl,rfl,rfl,rfl,tv⟩ rfl fun g22 a w S=>s_store S rfl rfl rfl (s':=(Y39.segs (gt x1 y1) ch1)) .h T39 rfl rfl fun w S=>c_end (c_region (s_fieldAddr S rfl I39_0 T31 (by decide) rfl rfl fun a S=>s_loada S rfl .h T31 (s':=[.b20 ((gt x1 y1).1)]) rfl rfl fun a S=>s_loada S rfl .h2 T31 (s':=[.b20 x2]) rfl rfl fun a S=>s_eqa S rfl rfl underlying31 underlying5 T5 Q31 rfl fun a S=>c_end ?_))
   rcases ite_of h2 with ⟨c3,h3⟩ | ⟨c3,h3⟩
   ·refine c_condT S rfl c3 (c_region (s_loada S rfl .h T39 (s':=(Y39.segs (gt x1 y1) ch1)) rfl rfl fun a S=>s_store S rfl rfl rfl (s':=(Y39.segs (gt x1 y1) ch1)) .h1 T39 rfl rfl fun w S=>s_as1 S rfl fun a S=>c_end (wp_ret (x_blockR (x_thenR (x_thenR (x_blockR (x_thenR ?_))))))))
    obtain rfl:=sI h3
    exact b_ret2 (d1:=(.agg (Y39.segs (gt x1 y1) ch1))) (d2:=(.b true)) S rfl (resD_cell rfl .h1 T39 rfl rfl) rfl fun ok1 ok2=>S.retX (Hx:=[]) hb _ _ ((ch1.e4.1,ch1.e4.2,ch1.e5,ch1.t5):W5) .nil ⟨ok1,⟨ok2,tv⟩,tv⟩
   ·refine c_condF S rfl c3 (wp_skip (x_blockN (x_thenN (c_region' (s_bi S rfl fun a S=>s_mv1 S rfl fun a S=>c_end' (x_thenN ?_))))))
    exact ⟨_,(wr .i64 (y1+1)),g20,g21,(S.sb rfl (.c1 (.c1 .n))),h3⟩
  ·refine c_condF S rfl c1 (wp_exit (x_thenX (x_thenX (x_blockX (x_thenN ?_)))))
   exact j1 _ g20 g21 a w (S.sb rfl (.c0 (.c0 .n))) h1
abbrev fe4_.Ty:Type:=W2→(List Int)→Option W6
def fe4_.Ctr (s:fe4_.Ty):Prop:=∀ {x1:W2} {x2:List Int} {ch_0:W3} {r:W6} (h0:s x1 x2=some r) {mi:Mem} {w0:World},CtrB Try.prog 26 [(.v (.pointer (some ⟨ch_0.1,0,none⟩))),(.agg [.b20 x2])] (MS1 x1 ch_0) (fun (ch:W7)=>((.rf (ptrV ch.2.1 r.1) (ptrR ch.2.1 r.1)):D)) (fun (ch:W7)=>(MS1 (x1.1,r.e3,x1.e3,r.e5,r.e6,r.t6) (ch_0.1,ch_0.2.1,ch_0.e3,ch.1,ch.2.1,ch.e3,ch.e4,ch.e5,ch.e6,ch.e7,ch.e8,ch.e9,ch.e10,ch.e11,ch.e12,ch.t12))) mi w0
def fe4_.j2 (x1:W2)(x2:List Int)(y3:List (List Int))(y4:L39):Option W6:=some ((some x1.2.1.2.1.length),((),(aput x1.2.1.1 x2 (some x1.2.1.2.1.length),x1.2.1.2.1++[((x2,y4.2.1,y4.2.2.1,y4.2.2.2.1,y4.2.2.2.2),(x2,y4.2.1,y4.2.2.1,y4.2.2.2.1,y4.2.2.2.2),false,x1.2.1.2.2.1.length,false,false,x1.2.1.2.2.2.length)],x1.2.1.2.2.1++[([]:List ((List Int)×(List Int)))],x1.2.1.2.2.2++[([]:List ((List Int)×Bool))]),(),x1.2.2.2.1,x1.2.2.2.2.1,y3))
abbrev zt1:(List Int)×Int×(List Int)×(List Int)×(List ((List Int)×(List Int))):=([0,0,0,0,0,0,0,0,0,0,0,0,0,0,0,0,0,0,0,0],0,[0,0,0,0],([]:List Int),([]:List ((List Int)×(List Int))))
def fe4_.j1 (x1:W2)(x2:List Int)(y1:Bool)(y2:L39):Option W6:=if (!y1)=true then (if (((x1.2.2.2.2.2).length:Int)==0)=true then (fe4_.j2 x1 x2 [x2] zt1) else (fe4_.j2 x1 x2 x1.2.2.2.2.2 zt1)) else (fe4_.j2 x1 x2 x1.2.2.2.2.2 y2)
def fe4_.f (k:Nat)(x1:W2)(x2:List Int):Option W6:=if ((lk (aget x1.2.1.1 x2) none).2)=true then (some ((lk (aget x1.2.1.1 x2) none).1,((),x1.2.1,(),x1.2.2.2.1,x1.2.2.2.2.1,x1.2.2.2.2.2))) else ((fc4_.f k x1.1 x2).bind fun t1=>(fe4_.j1 x1 x2 t1.2 t1.1))
theorem fe4_.ok (k:Nat):fe4_.Ctr (fe4_.f k):=by
 intro x1 x2 ch_0 r h0 mi w0 ok hm
 delta fe4_.f at h0
 refine c_enterZ (n:=59) ok hm func26 rfl rfl rfl fun b0 hb a S=>c_region (s_box S rfl rfl rfl fun g1 a w S=>s_as1 S rfl fun a S=>c_end (wp_seq ?_))
 refine wp_seq (c_hS S (.tk 0 5 (.alts (.run 5 true (.pure 6 (.pure 7 (.pure 8 (.alts (.run 9 true (.alts (.run 10 true .done .nil)) .nil))))) .nil))) 11 (.c0 (.c0 .n)) ⟨Res.stay_cells,Res.stay_cells,tv⟩ [(3,(.p g1)),(0,(.v (.pointer (some ⟨ch_0.1,0,none⟩))))] rfl (by kernel_rfl) ?_); clear S; intro w S CL hw le
 refine h_mv1 S CL hw le rfl tv fun a S CL=>h_nilchk S CL hw le (subR rfl) rfl rfl rfl rfl tv fun a S CL=>h_fieldAddr S CL hw le (subR rfl) rfl I72_1 T69 (by decide) rfl rfl rfl tv fun a S CL=>h_load1 S CL hw le (subR rfl) rfl .h1 T69 (v:=(.map (some ch_0.e4))) rfl rfl rfl tv fun a S CL=>h_loada S CL hw le (subR rfl) rfl .h T31 (s':=[.b20 x2]) rfl rfl rfl tv fun a S CL=>h_run' S rfl tv (s_lookO S (z:=none) (k:=x2) rfl .h2 () rfl (fun h=>⟨(),rfl,h⟩) underlying69 KT31 Z77 ⟨⟨rfl,(fun _ h=>by cases h),ptrR.mono _ _⟩,tv⟩ rfl fun ch1 a S=>CL.bk hw S (.c0 (.c0 .n)) le fun hw=>p_move S rfl rfl rfl tv fun a S=>p_extract S rfl rfl rfl rfl rfl tv fun a S=>p_extract S rfl rfl rfl rfl rfl tv fun a S=>h_run' S rfl tv (s_as1 S rfl fun a S=>CL.bk hw S (.c0 (.c0 .n)) le fun hw=>h_run' S rfl tv (s_as1 S rfl fun a S=>CL.bk hw S (.c0 (.c0 .n)) le fun hw=>?_)))
 refine h_done ?_; clear CL hw le
 refine x_thenN (c_region (s_mv1 S rfl fun a S=>c_end ?_))
 rcases ite_of h0 with ⟨c1,h1⟩ | ⟨c1,h1⟩
 ·refine c_condT S rfl c1 (c_region (s_mv1 S rfl fun a S=>s_as1 S rfl fun a S=>c_end (wp_ret (x_thenR ?_))))
  obtain rfl:=sI h1
  exact b_ret1 (d:=(.rf (ptrV ch_0.e5 ((lk (aget x1.2.1.1 x2) none).1)) (ptrR ch_0.e5 ((lk (aget x1.2.1.1 x2) none).1)))) S rfl rfl fun ok=>S.retX (Hx:=[]) hb _ _ (ch_0.t3:W7) (.c1 (.c1 (.c1 (.c1 (.c1 (.c1 (.c1 (.c1 .n)))))))) ok
 ·refine c_condF S rfl c1 (wp_skip (x_thenN (wp_seq_k fun K1 hK1=>?_)))
  have j1:∀ m y1 g3 g4 y2 cc1 a w,St 59 m b0 [(8,(.b y1)),(7,(.p g3)),(3,(.p g4)),(0,(.v (.pointer (some ⟨ch_0.1,0,none⟩))))] ([Res.cells g3 39 (Y39.segs y2 cc1),Res.cells g4 31 [.b20 x2]]++MS1 x1 ch_0) a w→fe4_.j1 x1 x2 y1 y2=some r→K1 a w:=by
   intro m y1 g3 g4 y2 cc1 a w S h0
   delta fe4_.j1 at h0
   refine hK1 a w (wp_seq_k fun K2 hK2=>?_)
   have j2:∀ m g6 g7 A1 nn1 cp1 y3 y4 cc2 a w,St 59 m b0 [(7,(.p g6)),(3,(.p g7)),(0,(.v (.pointer (some ⟨ch_0.1,0,none⟩))))] ([Res.cells g6 39 (Y39.segs y4 cc2),Res.cells g7 31 [.b20 x2]]++MS1 (x1.1,x1.2.1,x1.e3,x1.e4,x1.e5,y3) (ch_0.1,ch_0.2.1,ch_0.e3,ch_0.e4,ch_0.e5,ch_0.e6,ch_0.e7,ch_0.e8,ch_0.e9,ch_0.e10,ch_0.e11,ch_0.e12,ch_0.e13,A1,nn1,cp1)) a w→fe4_.j2 x1 x2 y3 y4=some r→K2 a w:=by
    intro m g6 g7 A1 nn1 cp1 y3 y4 cc2 a w S h0
    delta fe4_.j2 at h0
    refine hK2 a w (c_region (s_loada S rfl .h1 T31 (s':=[.b20 x2]) rfl rfl fun a S=>s_fieldAddr S rfl I39_0 T31 (by decide) rfl rfl fun a S=>s_storeJ S 0 rfl rfl rfl rfl .h T31 rfl rfl fun w S=>c_end (c_region (s_loada S rfl .h T39 (s':=(Y39.segs (x2,y4.2.1,y4.e3,y4.e4,y4.t4) cc2)) rfl rfl fun a S=>s_loada S rfl .h T39 (s':=(Y39.segs (x2,y4.2.1,y4.e3,y4.e4,y4.t4) cc2)) rfl rfl fun a S=>s_makeMap S true (Ty.arr .u64 4) true (Ty.arr .u64 4) rfl fun g8 a w S=>s_makeMap S true (Ty.arr .u64 4) false Ty.bool rfl fun g9 a w S=>s_bldS S (ds:=[(0,(.agg (Y39.segs (x2,y4.2.1,y4.e3,y4.e4,y4.t4) cc2))),(1,(.agg (Y39.segs (x2,y4.2.1,y4.e3,y4.e4,y4.t4) cc2))),(3,(.v (.map (some g8)))),(6,(.v (.map (some g9))))]) (zs:=[.b20 z20, .w 0, .w4 [0,0,0,0], .s none 0 0, .s none 0 0, .b20 z20, .w 0, .w4 [0,0,0,0], .s none 0 0, .s none 0 0, .b false, .one (.map none), .b false, .b false, .one (.map none)]) (s':=[.b20 x2, .w y4.2.1, .w4 y4.e3, .q yb cc2.e4.1 cc2.e4.2 y4.e4, .q Y82 cc2.e5 cc2.t5 y4.t4, .b20 x2, .w y4.2.1, .w4 y4.e3, .q yb cc2.e4.1 cc2.e4.2 y4.e4, .q Y82 cc2.e5 cc2.t5 y4.t4, .b false, .one (.map (some g8)), .b false, .b false, .one (.map (some g9))]) rfl underlying76 P76 Z76 ⟨rfl,rfl,rfl,rfl,rfl,rfl,rfl,rfl,rfl,rfl,rfl,rfl,rfl,rfl,rfl,tv⟩ rfl rfl fun a S=>s_box S rfl rfl rfl fun g10 a w S=>s_as1 S rfl fun a S=>c_end ?_))))
    refine wp_seq (c_hS S (.tk 0 6 (.alts (.run 6 true .done .nil))) 7 (.c4 (.c4 .n)) ⟨Res.stay_cells,Res.stay_cells,tv⟩ [(9,(.p g10)),(3,(.p g7)),(0,(.v (.pointer (some ⟨ch_0.1,0,none⟩))))] rfl (by kernel_rfl) ?_); clear S; intro w S CL hw le
    refine h_mv1 S CL hw le rfl tv fun a S CL=>h_nilchk S CL hw le (subR rfl) rfl rfl rfl rfl tv fun a S CL=>h_fieldAddr S CL hw le (subR rfl) rfl I72_1 T69 (by decide) rfl rfl rfl tv fun a S CL=>h_load1 S CL hw le (subR rfl) rfl .h1 T69 (v:=(.map (some ch_0.e4))) rfl rfl rfl tv fun a S CL=>h_loada S CL hw le (subR rfl) rfl .h T31 (s':=[.b20 x2]) rfl rfl rfl tv fun a S CL=>h_mv1 S CL hw le rfl tv fun a S CL=>h_run' S rfl tv ?_
    have hS:=S.famAdd .h2 .h7
    clear S; obtain ⟨S,hn1⟩:=hS
    replace S:=S.cellMid (s1:=[.b20 x2, .w y4.2.1, .w4 y4.e3, .q yb cc2.e4.1 cc2.e4.2 y4.e4, .q Y82 cc2.e5 cc2.t5 y4.t4, .b20 x2, .w y4.2.1, .w4 y4.e3, .q yb cc2.e4.1 cc2.e4.2 y4.e4, .q Y82 cc2.e5 cc2.t5 y4.t4, .b false]) (s2:=[.b false, .b false, .one (.map (some g9))]) (bAt_last _ _ hn1) (by rw [hn1]; simp) .h
    replace S:=S.famSub (F':=Res.struct (YE76 (ch_0.e6++[g8]) ch_0.e7) 76) (hF':=one_struct _ _) (fun _ _ _ _ h=>struct_sub (YS76_0 ch_0.e6 ch_0.e7 g8) _ _ _ _ _ h) .h6
    replace S:=S.rowSub (YCs_1 ch_0.1 ch_0.e5 ch_0.e6 ch_0.e7 g8) .h10
    have hS:=S.famAdd .h1 .h7
    clear S; obtain ⟨S,hn2⟩:=hS
    replace S:=S.cellMid (s1:=[.b20 x2, .w y4.2.1, .w4 y4.e3, .q yb cc2.e4.1 cc2.e4.2 y4.e4, .q Y82 cc2.e5 cc2.t5 y4.t4, .b20 x2, .w y4.2.1, .w4 y4.e3, .q yb cc2.e4.1 cc2.e4.2 y4.e4, .q Y82 cc2.e5 cc2.t5 y4.t4, .b false, .rf (.map (some (bAt (ch_0.e6++[g8]) x1.2.1.e3.length))) (ltR x1.2.1.e3.length (ch_0.e6++[g8])), .b false, .b false]) (s2:=[]) (bAt_last _ _ hn2) (by rw [hn2]; simp) .h
    replace S:=S.famSub (F':=Res.struct (YE76 (ch_0.e6++[g8]) (ch_0.e7++[g9])) 76) (hF':=one_struct _ _) (fun _ _ _ _ h=>struct_sub (YS76_1 (ch_0.e6++[g8]) ch_0.e7 g9) _ _ _ _ _ h) .h5
    replace S:=S.rowSub (YCs_2 ch_0.1 ch_0.e5 (ch_0.e6++[g8]) ch_0.e7 g9) .h9
    replace S:=S.structClose (T:=(YE76 (ch_0.e6++[g8]) (ch_0.e7++[g9]))) (e:=((x2,y4.2.1,y4.e3,y4.e4,y4.t4),(x2,y4.2.1,y4.e3,y4.e4,y4.t4),false,x1.2.1.e3.length,false,false,x1.2.1.t3.length)) ((cc2,cc2,(),(),(),(),()):((YE76 (ch_0.e6++[g8]) (ch_0.e7++[g9]))).Ch) rfl .h
    have hS:=S.famAdd .h .h4
    clear S; obtain ⟨S,hn3⟩:=hS
    replace S:=S.mapSub (fun m x v h=>vl_pid g10 m x v h) .h3
    replace S:=S.rowSub (YCs_0 ch_0.1 ch_0.e5 (ch_0.e6++[g8]) (ch_0.e7++[g9]) g10) .h8
    replace S:=S.slotPB (u:=57) (i:=x1.2.1.2.1.length) (g:=g10) (G:=(ch_0.e5++[g10])) (by rw [hn3]; simp) (bAt_last _ _ hn3) rfl
    replace S:=S.slotPB (u:=9) (i:=x1.2.1.2.1.length) (g:=g10) (G:=(ch_0.e5++[g10])) (by rw [hn3]; simp) (bAt_last _ _ hn3) rfl
    replace S:=S.slotPB (u:=51) (i:=x1.2.1.2.1.length) (g:=g10) (G:=(ch_0.e5++[g10])) (by rw [hn3]; simp) (bAt_last _ _ hn3) rfl
    refine s_mapput S (k:=x2) (y:=(some x1.2.1.2.1.length)) rfl .h3 rfl (fun h=>⟨(),rfl,h⟩) rfl (fun h=>⟨(),rfl,h,tv⟩) underlying69 KT31 fun w S=>CL.bk hw S (.c1 (.c1 .n)) le fun hw=>?_
    refine h_done ?_; clear CL hw le
    refine x_thenN (c_region (s_mv1 S rfl fun a S=>s_as1 S rfl fun a S=>c_end (wp_ret ?_)))
    obtain rfl:=sI h0
    exact b_ret1 (d:=(.rf (ptrV (ch_0.e5++[g10]) (some x1.2.1.2.1.length)) (ptrR (ch_0.e5++[g10]) (some x1.2.1.2.1.length)))) S rfl rfl fun ok=>S.retX (Hx:=[]) hb _ _ ((ch_0.e4,(ch_0.e5++[g10]),(ch_0.e6++[g8]),(ch_0.e7++[g9]),ch_0.e8,ch_0.e9,ch_0.e10,ch_0.e11,ch_0.e12,ch_0.e13,A1,nn1,cp1):W7) (.c2 (.c2 (.c2 (.c2 (.c2 (.c2 (.c2 (.c2 .n)))))))) ok
   refine c_region (s_mv1 S rfl fun a S=>s_not S rfl rfl fun a S=>c_end ?_)
   rcases ite_of h0 with ⟨c2,h1⟩ | ⟨c2,h1⟩
   ·refine c_condT S rfl c2 (c_region (s_bldS S (ds:=[]) (zs:=[.b20 z20, .w 0, .w4 [0,0,0,0], .s none 0 0, .s none 0 0]) (s':=[.b20 z20, .w 0, .w4 [0,0,0,0], .s none 0 0, .s none 0 0]) rfl underlying39 P39 Z39 ⟨rfl,rfl,rfl,rfl,rfl,tv⟩ rfl rfl fun a S=>s_store S rfl rfl rfl (s':=[.b20 z20, .w 0, .w4 [0,0,0,0], .s none 0 0, .s none 0 0]) .h T39 rfl rfl fun w S=>c_end (c_region (s_mv1 S rfl fun a S=>s_nilchk S rfl rfl fun a S=>s_fieldAddr S rfl I72_5 T23 (by decide) rfl rfl fun a S=>s_load1 S rfl .h2 T23 (v:=(.slice ch_0.e14 ch_0.e15 ch_0.t15)) rfl rfl fun a S=>s_lenO S rfl .h9 underlying23 rfl fun a S=>s_bi S rfl fun a S=>c_end ?_))))
    rcases ite_of h1 with ⟨c3,h2⟩ | ⟨c3,h2⟩
    ·refine c_condT S rfl c3 (c_region' (s_mv1 S rfl fun a S=>s_loada S rfl .h1 T31 (s':=[.b20 x2]) rfl rfl fun a S=>s_bldSl S (ty':=(Ty.arr .u8 20)) (ds:=[(0,(.agg [.b20 x2]))]) (z:=z20) (c0:=()) (ys:=[x2]) (cs:=[()]) rfl underlying23 J31 Z31 rfl ⟨rfl,tv⟩ rfl rfl rfl rfl rfl rfl fun g11 a w S=>s_nilchk S rfl rfl fun a S=>s_fieldAddr S rfl I72_5 T23 (by decide) rfl rfl fun a S=>s_storeJ S 5 rfl rfl rfl rfl .h3 T23 rfl rfl fun w S=>c_end' (x_thenN ?_)))
     replace S:=S.cellN 3 yb .h1 rfl
     replace S:=S.cellN 4 Y82 .h1 rfl
     exact j2 _ g3 g4 (ad g11) 1 1 [x2] zt1 ((),(),(),(none,0),(none,0)) a w (S.sb rfl (.c1 (.c1 (.c1 (.c1 (.c1 (.c1 (.c1 (.c1 (.c1 (.c0 .n))))))))))) h2
    ·refine c_condF S rfl c3 (wp_skip (x_thenN ?_))
     replace S:=S.cellN 3 yb .h rfl
     replace S:=S.cellN 4 Y82 .h rfl
     exact j2 _ g3 g4 ch_0.e14 ch_0.e15 ch_0.t15 x1.t5 zt1 ((),(),(),(none,0),(none,0)) a w (S.sb rfl (.c0 (.c0 (.c0 (.c0 (.c0 (.c0 (.c0 (.c0 (.c0 (.c0 .n))))))))))) h2
   ·refine c_condF S rfl c2 (wp_skip (x_thenN ?_))
    exact j2 _ g3 g4 ch_0.e14 ch_0.e15 ch_0.t15 x1.t5 y2 cc1 a w (S.sb rfl (.c0 (.c0 (.c0 (.c0 (.c0 (.c0 (.c0 (.c0 (.c0 (.c0 .n))))))))))) h1
  refine c_hS S (.tk 0 5 (.alts (.run 5 false (.pure 6 (.pure 7 (.pure 8 (.alts (.run 9 false (.alts (.run 10 false (.alts (.run 11 false .done .nil)) .nil)) .nil))))) (.run 9 true (.alts (.run 5 false (.pure 6 (.pure 7 (.pure 8 (.alts (.run 10 false (.alts (.run 11 false .done .nil)) .nil))))) .nil)) .nil)))) 5 (.c0 (.c0 .n)) ⟨Res.stay_cells,Res.stay_cells,tv⟩ [(3,(.p g1)),(0,(.v (.pointer (some ⟨ch_0.1,0,none⟩))))] rfl (by kernel_rfl) fun w S CL hw le=>?_
  refine h_mv1 S CL hw le rfl tv fun a S CL=>h_nilchk S CL hw le (subR rfl) rfl rfl rfl rfl tv fun a S CL=>h_fieldAddr S CL hw le (subR rfl) rfl I72_0 T45 (by decide) rfl rfl rfl tv fun a S CL=>h_loadM S CL hw le (subR rfl) rfl .h1 T45 (v:=(.iface 68 (.agg (cellsOf [.q Y39 ch_0.2.1 ch_0.e3 x1.1]).toArray))) rfl rfl rfl tv fun a S CL=>h_loada S CL hw le (subR rfl) rfl .h T31 (s':=[.b20 x2]) rfl rfl rfl tv fun a S CL=>bindX h1 fun t1 et1 h2=>h_alts ?_
  refine h_runO S rfl tv ?_ ?_
  ·refine s_callKI S (d0:=(.agg [.q Y39 ch_0.2.1 ch_0.e3 x1.1])) (ds':=[(.agg [.b20 x2])]) (ds:=[(.agg [.b20 x2])]) (fc4_.ok k et1) N102 M68_Account rfl rfl (fun h=>h) rfl rfl (fun ok=>ok) .pre (fun _=> .n) rfl fun ch3 m le1 a w S=>?_
   replace le:=le.trans le1
   refine h_back ⟨fun h=>(nomatch h),?_⟩
   refine p_move S rfl rfl rfl tv fun a S=>p_extract S rfl rfl rfl rfl rfl tv fun a S=>p_extract S rfl rfl rfl rfl rfl tv fun a S=>h_run' S rfl tv (s_alloc S Z39 rfl ⟨rfl,rfl,rfl,rfl,rfl,tv⟩ rfl fun g12 a w S=>?_)
   refine h_back ⟨fun h=>(nomatch h),?_⟩
   refine h_run' S rfl tv (s_store S rfl rfl rfl (s':=(Y39.segs t1.1 ((),(),(),(ch3.1,ch3.2.1),ch3.t2))) .h T39 rfl rfl fun w S=>?_)
   refine h_back ⟨fun h=>(nomatch h),?_⟩
   refine h_run' S rfl tv (s_as1 S rfl fun a S=>?_)
   refine h_back ⟨fun h=>(nomatch h),?_⟩
   refine h_done ?_; clear CL hw le
   refine x_thenN ?_
   exact j1 _ t1.2 g12 g1 t1.1 ((),(),(),(ch3.1,ch3.2.1),ch3.t2) a w (S.sb rfl (.c0 (.c0 (.c0 (.c0 (.c0 (.c0 (.c0 (.c0 (.c0 (.c0 .n))))))))))) h2
  refine h_runO S rfl tv ?_ ?_
  ·refine s_alloc S Z39 rfl ⟨rfl,rfl,rfl,rfl,rfl,tv⟩ rfl fun g12 a w S=>CL.bk hw S (.c1 (.c1 .n)) le fun hw=>h_run' S rfl tv (s_callKI S (d0:=(.agg [.q Y39 ch_0.2.1 ch_0.e3 x1.1])) (ds':=[(.agg [.b20 x2])]) (ds:=[(.agg [.b20 x2])]) (fc4_.ok k et1) N102 M68_Account rfl rfl (fun h=>h) rfl rfl (fun ok=>ok) .pre (fun _=> .n) rfl fun ch3 m le1 a w S=>?_)
   replace le:=le.trans le1
   refine h_back ⟨fun h=>(nomatch h),?_⟩
   refine p_move S rfl rfl rfl tv fun a S=>p_extract S rfl rfl rfl rfl rfl tv fun a S=>p_extract S rfl rfl rfl rfl rfl tv fun a S=>h_run' S rfl tv (s_store S rfl rfl rfl (s':=(Y39.segs t1.1 ((),(),(),(ch3.1,ch3.2.1),ch3.t2))) .h T39 rfl rfl fun w S=>?_)
   refine h_back ⟨fun h=>(nomatch h),?_⟩
   refine h_run' S rfl tv (s_as1 S rfl fun a S=>?_)
   refine h_back ⟨fun h=>(nomatch h),?_⟩
   refine h_done ?_; clear CL hw le
   refine x_thenN ?_
   exact j1 _ t1.2 g12 g1 t1.1 ((),(),(),(ch3.1,ch3.2.1),ch3.t2) a w (S.sb rfl (.c0 (.c0 (.c0 (.c0 (.c0 (.c0 (.c0 (.c0 (.c0 (.c0 .n))))))))))) h2
  exact h_nil
abbrev fb1_.Ty:Type:=W2→Clo→Option W8
def fb1_.Ctr (s:fb1_.Ty):Prop:=∀ {x1:W2} {x2:Clo} {ch_0:W3} {ch_1_0:List Addr} {r:W8} (h0:s x1 x2=some r) {mi:Mem} {w0:World},CtrB Try.prog 29 [(.v (.pointer (some ⟨ch_0.1,0,none⟩))),(.rf (cloV x2 ch_1_0) (cloR ch_0.1 ch_0.e5 ch_0.e6 ch_0.e7 x2 ch_1_0))] (MS1 x1 ch_0) (fun (ch:(Option Addr)×Nat×Nat)=>((.tup []):D)) (fun (ch:(Option Addr)×Nat×Nat)=>(MS1 (x1.1,x1.2.1,x1.e3,x1.e4,r.e5,x1.t5) (ch_0.1,ch_0.2.1,ch_0.e3,ch_0.e4,ch_0.e5,ch_0.e6,ch_0.e7,ch_0.e8,ch_0.e9,ch_0.e10,ch.1,ch.2.1,ch.t2,ch_0.e14,ch_0.e15,ch_0.t15))) mi w0
def fb1_.f (x1:W2)(x2:Clo):Option W8:=if ((x1.2.2.2.2.1).length+([x2]).length)*8≤140737488355328 then (some ((),(),(),(),x1.2.2.2.2.1++[x2],())) else none
theorem fb1_.ok:fb1_.Ctr (fb1_.f):=by
 intro x1 x2 ch_0 ch_1_0 r h0 mi w0 ok hm
 delta fb1_.f at h0
 refine c_enterZ (n:=14) ok hm func29 rfl rfl rfl fun b0 hb a S=>c_region' (s_mv2 S rfl fun a S=>s_nilchk S rfl rfl fun a S=>s_fieldAddr S rfl I72_4 T70 (by decide) rfl rfl fun a S=>s_load1 S rfl .h T70 (v:=(.slice ch_0.e11 ch_0.e12 ch_0.e13)) rfl rfl fun a S=>s_mv1 S rfl fun a S=>s_bldSl S (ty':=(YC ch_0.1 ch_0.e5 ch_0.e6 ch_0.e7)) (ds:=[(0,(.rf (cloV x2 ch_1_0) (cloR ch_0.1 ch_0.e5 ch_0.e6 ch_0.e7 x2 ch_1_0)))]) (z:=Clo.nil) (c0:=[]) (ys:=[x2]) (cs:=[ch_1_0]) rfl underlying70 J1 Z1 rfl ⟨⟨rfl,tv,cloM _ _ _ _ _ _⟩,tv⟩ rfl rfl rfl rfl rfl rfl fun g1 a w S=>?_)
 obtain ⟨c1,h1⟩:=chk_of h0; clear h0
 refine s_app S (k2:=1) (ys:=[x2]) rfl (fun _ _=> .h7) rfl rfl (S.holds _ (Pull.mem .h).1).1 (Res.row.src (S.holds _ (Pull.mem .h).1)) underlying70 J1 c1 rfl fun A1 cp1 a w S=>s_nilchk S rfl rfl fun a S=>s_fieldAddr S rfl I72_4 T70 (by decide) rfl rfl fun a S=>s_storeJ S 4 rfl rfl rfl rfl .h1 T70 rfl rfl fun w S=>c_end' (b_end ?_)
 obtain rfl:=sI h1
 exact b_ret0 S rfl (S.retX (Hx:=[]) hb _ _ ((A1,ch_0.e12+1,cp1):(Option Addr)×Nat×Nat) (.c1 (.c1 (.c1 (.c1 (.c1 (.c1 (.c1 (.c1 .n)))))))) tv)
abbrev fe1_.Ty:Type:=W2→(List Int)→(List Int)→(List Int)→Option W9
def fe1_.Ctr (s:fe1_.Ty):Prop:=∀ {x1:W2} {x2:List Int} {x3:List Int} {x4:List Int} {ch_0:W3} {r:W9} (h0:s x1 x2 x3 x4=some r) {mi:Mem} {w0:World},CtrB Try.prog 15 [(.v (.pointer (some ⟨ch_0.1,0,none⟩))),(.agg [.b20 x2]),(.a4 x3),(.a4 x4)] (MS1 x1 ch_0) (fun (ch:W7)=>((.tup []):D)) (fun (ch:W7)=>(MS1 (x1.1,r.2.1,x1.e3,r.e4,r.e5,r.t5) (ch_0.1,ch_0.2.1,ch_0.e3,ch.1,ch.2.1,ch.e3,ch.e4,ch.e5,ch.e6,ch.e7,ch.e8,ch.e9,ch.e10,ch.e11,ch.e12,ch.t12))) mi w0
def fe1_.f (k:Nat)(x1:W2)(x2:List Int)(x3:List Int)(x4:List Int):Option W9:=(fe4_.f k x1 x2).bind fun t1=>(if t1.1.isSome=true then ((fb1_.f (x1.1,t1.2.2.1,x1.2.2.1,t1.2.2.2.2.1,t1.2.2.2.2.2.1,t1.2.2.2.2.2.2) (Clo.c33 ((lk (aget (atE t1.2.2.1.2.2.1 ((atE t1.2.2.1.2.1 (t1.1.getD 0)).2.2.2.1)) x3) [0,0,0,0]).2) ((lk (aget (atE t1.2.2.1.2.2.1 ((atE t1.2.2.1.2.1 (t1.1.getD 0)).2.2.2.1)) x3) [0,0,0,0]).1) ((atE t1.2.2.1.2.1 (t1.1.getD 0)).2.2.2.1) x3)).bind fun t2=>(some ((),(t1.2.2.1.1,t1.2.2.1.2.1,t1.2.2.1.2.2.1.set ((atE t1.2.2.1.2.1 (t1.1.getD 0)).2.2.2.1) (aput (atE t1.2.2.1.2.2.1 ((atE t1.2.2.1.2.1 (t1.1.getD 0)).2.2.2.1)) x3 x4),t1.2.2.1.2.2.2),(),t1.2.2.2.2.1,t2.2.2.2.2.1,t1.2.2.2.2.2.2))) else none)
theorem fe1_.ok (k:Nat):fe1_.Ctr (fe1_.f k):=by
 intro x1 x2 x3 x4 ch_0 r h0 mi w0 ok hm
 delta fe1_.f at h0
 refine c_enterZ (n:=31) ok hm func15 rfl rfl rfl fun b0 hb a S=>c_region (s_box S rfl rfl rfl fun g1 a w S=>s_box S rfl rfl rfl fun g2 a w S=>s_box S rfl rfl rfl fun g3 a w S=>c_end (wp_seq (c_region (s_mv1 S rfl fun a S=>s_eqp S (b:=false) rfl rfl underlying26 rfl rfl fun a S=>c_end (c_condF S rfl rfl (wp_skip (x_thenN (c_region (s_mv1 S rfl fun a S=>s_loada S rfl .h2 T31 (s':=[.b20 x2]) rfl rfl fun a S=>bindX h0 fun t1 et1 h1=>s_callK S (fe4_.ok k (ch_0:=ch_0) et1) N26 rfl (.sk (.sk (.sk .pre))) (fun _=> .c8) rfl fun ch1 m le1 a w S=>?_)))))))))
 obtain ⟨c1,h2⟩:=chk_of h1; clear h1
 have hl1:=S.slotPlt (u:=15) c1 rfl
 replace S:=S.slotP (u:=15) c1 rfl
 refine s_nilchk S rfl rfl fun a S=>s_fieldAddr S rfl I76_3 T73 (by decide) rfl rfl fun a S=>?_
 replace S:=S.famOpen (i:=(t1.1.getD 0)) hl1 .h2
 have hS:=S.structOpen (T:=(YE76 ch1.e3 ch1.e4)) (fun _=> .h) (((),(),(),(none,0),(none,0)),((),(),(),(none,0),(none,0)),(),(),(),(),())
 clear S; obtain ⟨ch2,S⟩:=hS
 refine s_loadM S rfl .h T73 (v:=(.map (some (bAt ch1.e3 ((atE t1.e3.2.1 (t1.1.getD 0)).e4))))) rfl rfl fun a S=>?_
 replace S:=S.structClose (T:=(YE76 ch1.e3 ch1.e4)) (e:=atE t1.e3.2.1 (t1.1.getD 0)) (ch2:((YE76 ch1.e3 ch1.e4)).Ch) rfl .h
 replace S:=S.famShut hl1 .h .h2
 refine s_alloc S Z73 rfl rfl rfl fun g4 a w S=>s_storeJ S 0 rfl rfl rfl rfl .h T73 rfl rfl fun w S=>c_end (c_region (s_loadM S rfl .h T73 (v:=(.map (some (bAt ch1.e3 ((atE t1.e3.2.1 (t1.1.getD 0)).e4))))) rfl rfl fun a S=>s_loada S rfl .h10 T35 (s':=[.w4 x3]) rfl rfl fun a S=>?_))
 have hm1:=S.slotLt (u:=20) rfl
 replace S:=S.slotMid (u:=20) rfl
 replace S:=S.famOpen (i:=((atE t1.e3.2.1 (t1.1.getD 0)).e4)) hm1 .h4
 refine s_lookO S (z:=[0,0,0,0]) (k:=x3) rfl .h () rfl (fun h=>⟨(),rfl,h⟩) underlying73 KT35 Z35 ⟨rfl,tv⟩ rfl fun ch3 a S=>?_
 replace S:=S.famShut hm1 .h .h4
 replace S:=S.slotMidB (u:=20) hm1 rfl
 refine s_mv1 S rfl fun a S=>s_extract S rfl rfl rfl rfl fun a S=>s_extract S rfl rfl rfl rfl fun a S=>s_alloc S Z35 rfl ⟨rfl,tv⟩ rfl fun g5 a w S=>s_alloc S Z4 rfl rfl rfl fun g6 a w S=>s_storeJ S 0 rfl rfl rfl rfl .h1 T35 rfl rfl fun w S=>s_storeJ S 0 rfl rfl rfl rfl .h T4 rfl rfl fun w S=>c_end (c_region (s_mv1 S rfl fun a S=>?_))
 replace S:=S.freeze .h
 obtain ⟨m,le1,S⟩:=S
 replace S:=S.freeze .h1
 obtain ⟨m,le1,S⟩:=S
 replace S:=S.freeze .h2
 obtain ⟨m,le1,S⟩:=S
 replace S:=S.freeze .h12
 obtain ⟨m,le1,S⟩:=S
 replace S:=S.slotAt (u:=10) (g:=g6) (t:=4) (T:=Ty.bool) (x:=(lk (aget (atE t1.e3.e3 ((atE t1.e3.2.1 (t1.1.getD 0)).e4)) x3) [0,0,0,0]).2) (c:=(():(Ty.bool).Ch)) .h rfl rfl
 replace S:=S.slotAt (u:=9) (g:=g5) (t:=35) (T:=(Ty.arr .u64 4)) (x:=(lk (aget (atE t1.e3.e3 ((atE t1.e3.2.1 (t1.1.getD 0)).e4)) x3) [0,0,0,0]).1) (c:=(():((Ty.arr .u64 4)).Ch)) .h1 rfl rfl
 replace S:=S.slotAt (u:=8) (g:=g4) (t:=73) (T:=(Ty.mid ch1.e3)) (x:=(atE t1.e3.2.1 (t1.1.getD 0)).e4) (c:=(():((Ty.mid ch1.e3)).Ch)) .h2 rfl rfl
 replace S:=S.slotAt (u:=6) (g:=g2) (t:=35) (T:=(Ty.arr .u64 4)) (x:=x3) (c:=(():((Ty.arr .u64 4)).Ch)) .h12 rfl rfl
 refine s_mkFn S (ds:=[(.pt ⟨g6,0,none⟩ (At Ty.bool ⟨g6,0,none⟩ ((lk (aget (atE t1.e3.e3 ((atE t1.e3.2.1 (t1.1.getD 0)).e4)) x3) [0,0,0,0]).2))),(.pt ⟨g5,0,none⟩ (At (Ty.arr .u64 4) ⟨g5,0,none⟩ ((lk (aget (atE t1.e3.e3 ((atE t1.e3.2.1 (t1.1.getD 0)).e4)) x3) [0,0,0,0]).1))),(.pt ⟨g4,0,none⟩ (At (Ty.mid ch1.e3) ⟨g4,0,none⟩ ((atE t1.e3.2.1 (t1.1.getD 0)).e4))),(.pt ⟨g2,0,none⟩ (At (Ty.arr .u64 4) ⟨g2,0,none⟩ x3))]) rfl rfl fun a S=>?_
 replace S:=S.slotFn (u:=26) (V:=cloV) (R:=cloR ch_0.1 ch1.2.1 ch1.e3 ch1.e4) (Clo.c33 ((lk (aget (atE t1.e3.e3 ((atE t1.e3.2.1 (t1.1.getD 0)).e4)) x3) [0,0,0,0]).2) ((lk (aget (atE t1.e3.e3 ((atE t1.e3.2.1 (t1.1.getD 0)).e4)) x3) [0,0,0,0]).1) ((atE t1.e3.2.1 (t1.1.getD 0)).e4) x3) ([⟨g6,0,none⟩,⟨g5,0,none⟩,⟨g4,0,none⟩,⟨g2,0,none⟩]:List Addr) rfl (fun h=>⟨h.1.1,h.2.1.1,h.2.2.1.1,h.2.2.2.1.1,tv⟩) (cloM _ _ _ _ _ _) rfl
 replace S:=S.slot (u:=10) (d':= .v (.pointer (ad g6))) rfl rfl rfl
 replace S:=S.slot (u:=9) (d':= .v (.pointer (ad g5))) rfl rfl rfl
 replace S:=S.slot (u:=8) (d':= .v (.pointer (ad g4))) rfl rfl rfl
 replace S:=S.slot (u:=6) (d':= .v (.pointer (ad g2))) rfl rfl rfl
 refine bindX h2 fun t2 et2 h3=>s_callK S (fb1_.ok (ch_0:=(ch_0.1,ch_0.2.1,ch_0.e3,ch1.1,ch1.2.1,ch1.e3,ch1.e4,ch1.e5,ch1.e6,ch1.e7,ch1.e8,ch1.e9,ch1.e10,ch1.e11,ch1.e12,ch1.t12)) et2) N29 rfl (.sk (.sk (.sk .pre))) (fun _=> .c8) rfl fun ch4 m le1 a w S=>c_end (c_region' (s_loadMF S rfl .h10 T73 (v:=(.map (some (bAt ch1.e3 ((atE t1.e3.2.1 (t1.1.getD 0)).e4))))) rfl rfl fun a S=>s_loadaF S rfl .h12 T35 (s':=[.w4 x3]) rfl rfl fun a S=>s_loada S rfl .h11 T35 (s':=[.w4 x4]) rfl rfl fun a S=>?_))
 have hm2:=S.slotLt (u:=28) rfl
 replace S:=S.slotMid (u:=28) rfl
 replace S:=S.famOpen (i:=((atE t1.e3.2.1 (t1.1.getD 0)).e4)) hm2 .h3
 refine s_mapput S (k:=x3) (y:=x4) rfl .h rfl (fun h=>⟨(),rfl,h⟩) rfl (fun h=>⟨(),rfl,h⟩) underlying73 KT35 fun w S=>?_
 replace S:=S.famClose hm2 .h .h3
 replace S:=S.slotMidB (u:=28) hm2 rfl
 refine c_end' (b_end ?_)
 obtain rfl:=sI h3
 exact b_ret0 S rfl (S.retX (Hx:=[]) hb _ _ ((ch1.1,ch1.2.1,ch1.e3,ch1.e4,ch1.e5,ch1.e6,ch1.e7,ch4.1,ch4.2.1,ch4.t2,ch1.e11,ch1.e12,ch1.t12):W7) (.c0 (.c0 (.c0 (.c0 (.c0 (.c0 (.c0 (.c0 .n)))))))) tv)
abbrev fd5_.Ty:Type:=W2→Option Int
def fd5_.Ctr (s:fd5_.Ty):Prop:=∀ {x1:W2} {ch_0:W3} {r:Int} (h0:s x1=some r) {mi:Mem} {w0:World},CtrB Try.prog 24 [(.v (.pointer (some ⟨ch_0.1,0,none⟩)))] (MS1 x1 ch_0) (fun (ch:Unit)=>((.i r):D)) (fun (ch:Unit)=>(MS1 x1 ch_0)) mi w0
def fd5_.f (x1:W2):Option Int:=some ((x1.2.2.2.2.1).length:Int)
theorem fd5_.ok:fd5_.Ctr (fd5_.f):=by
 intro x1 ch_0 r h0 mi w0 ok hm
 delta fd5_.f at h0
 refine c_enterZ (n:=10) ok hm func24 rfl rfl rfl fun b0 hb a S=>c_region (s_as1 S rfl fun a S=>c_end (wp_seq (c_region (s_mv1 S rfl fun a S=>s_eqp S (b:=false) rfl rfl underlying26 rfl rfl fun a S=>c_end (c_condF S rfl rfl (wp_skip (x_thenN (c_region (s_mv1 S rfl fun a S=>s_nilchk S rfl rfl fun a S=>s_fieldAddr S rfl I72_4 T70 (by decide) rfl rfl fun a S=>s_load1 S rfl .h T70 (v:=(.slice ch_0.e11 ch_0.e12 ch_0.e13)) rfl rfl fun a S=>s_lenO S rfl .h6 underlying70 rfl fun a S=>s_as1 S rfl fun a S=>c_end (wp_ret ?_))))))))))
 obtain rfl:=sI h0
 exact b_ret1 (d:=(.i ((x1.e5).length:Int))) S rfl rfl fun ok=>S.retX (Hx:=[]) hb _ _ (():Unit) (.c0 (.c0 (.c0 (.c0 (.c0 (.c0 (.c0 (.c0 .n)))))))) ok
abbrev fb3_.Ty:Type:=(List Int)→(Option Nat)→W2→Option W10
def fb3_.Ctr (s:fb3_.Ty):Prop:=∀ {x1:List Int} {x2:Option Nat} {x3:W2} {ch_0_0:Addr} {ch_1_0:Addr} {ch_2:W3} {r:W10} (h0:s x1 x2 x3=some r) {mi:Mem} {w0:World},CtrB Try.prog 30 [(.pt ch_0_0 (At (Ty.slice yb) ch_0_0 x1)),(.pt ch_1_0 (At (Ty.pid ch_2.e5) ch_1_0 x2))] (MS1 x3 ch_2) (fun (ch:W11)=>((.tup []):D)) (fun (ch:W11)=>(MS1 (x3.1,r.2.1,x3.e3,x3.e4,x3.e5,x3.t5) (ch_2.1,ch_2.2.1,ch_2.e3,ch.1,ch.2.1,ch.e3,ch.t3,ch_2.e8,ch_2.e9,ch_2.e10,ch_2.e11,ch_2.e12,ch_2.e13,ch_2.e14,ch_2.e15,ch_2.t15))) mi w0
def fb3_.f (x1:List Int)(x2:Option Nat)(x3:W2):Option W10:=if x2.isSome=true then (some ((),(x3.2.1.1,x3.2.1.2.1.set (x2.getD 0) ((atE x3.2.1.2.1 (x2.getD 0)).1,(((atE x3.2.1.2.1 (x2.getD 0)).2.1).1,((atE x3.2.1.2.1 (x2.getD 0)).2.1).2.1,((atE x3.2.1.2.1 (x2.getD 0)).2.1).2.2.1,x1,((atE x3.2.1.2.1 (x2.getD 0)).2.1).2.2.2.2),(atE x3.2.1.2.1 (x2.getD 0)).2.2.1,(atE x3.2.1.2.1 (x2.getD 0)).2.2.2.1,(atE x3.2.1.2.1 (x2.getD 0)).2.2.2.2.1,(atE x3.2.1.2.1 (x2.getD 0)).2.2.2.2.2.1,(atE x3.2.1.2.1 (x2.getD 0)).2.2.2.2.2.2),x3.2.1.2.2.1,x3.2.1.2.2.2),(),(),(),())) else none
theorem fb3_.ok:fb3_.Ctr (fb3_.f):=by
 intro x1 x2 x3 ch_0_0 ch_1_0 ch_2 r h0 mi w0 ok hm
 delta fb3_.f at h0
 refine c_enterZ (n:=7) ok hm func30 rfl rfl rfl fun b0 hb a S=>c_region' (s_ldF S (fun _=>ptrV ch_2.e5 x2) (fun _=>ptrR ch_2.e5 x2) rfl T77 (fun _=>rfl) rfl fun _ a S=>s_ldS S (fun c=>c) rfl T36 (fun _=>rfl) rfl fun A1 cp1 a S=>?_)
 obtain ⟨c1,h1⟩:=chk_of h0; clear h0
 have hl1:=S.slotPlt (u:=2) c1 rfl
 replace S:=S.slotP (u:=2) c1 rfl
 refine s_nilchk S rfl rfl fun a S=>s_fieldAddr S rfl I76_1 T39 (by decide) rfl rfl fun a S=>s_fieldAddr S rfl I39_3 T36 (by decide) rfl rfl fun a S=>?_
 replace S:=S.famOpen (i:=(x2.getD 0)) hl1 .h2
 have hS:=S.structOpen (T:=(YE76 ch_2.e6 ch_2.e7)) (fun _=> .h) (((),(),(),(none,0),(none,0)),((),(),(),(none,0),(none,0)),(),(),(),(),())
 clear S; obtain ⟨ch1,S⟩:=hS
 refine s_storeJ S 8 rfl rfl rfl rfl .h T36 rfl rfl fun w S=>?_
 replace S:=S.structClose (T:=(YE76 ch_2.e6 ch_2.e7)) (e:=((atE x3.2.1.2.1 (x2.getD 0)).1,(((atE x3.2.1.2.1 (x2.getD 0)).2.1).1,((atE x3.2.1.2.1 (x2.getD 0)).2.1).2.1,((atE x3.2.1.2.1 (x2.getD 0)).2.1).e3,x1,((atE x3.2.1.2.1 (x2.getD 0)).2.1).t4),(atE x3.2.1.2.1 (x2.getD 0)).e3,(atE x3.2.1.2.1 (x2.getD 0)).e4,(atE x3.2.1.2.1 (x2.getD 0)).e5,(atE x3.2.1.2.1 (x2.getD 0)).e6,(atE x3.2.1.2.1 (x2.getD 0)).t6)) ((ch1.1,((),(),(),(A1,cp1),ch1.2.1.t4),(),(),(),(),()):((YE76 ch_2.e6 ch_2.e7)).Ch) rfl .h
 replace S:=S.famClose hl1 .h .h2
 refine c_end' (b_end ?_)
 obtain rfl:=sI h1
 exact b_ret0 S rfl (S.retX (Hx:=[]) hb _ _ ((ch_2.e4,ch_2.e5,ch_2.e6,ch_2.e7):W11) (.c0 (.c0 (.c0 (.c0 (.c0 (.c0 (.c0 (.c0 .n)))))))) tv)
abbrev fc6_.Ty:Type:=Unit→Int→W2→Option W12
def fc6_.Ctr (s:fc6_.Ty):Prop:=∀ {x1:Unit} {x2:Int} {x3:W2} {ch_0_0:Addr} {ch_1_0:Addr} {ch_2:W3} {r:W12} (h0:s x1 x2 x3=some r) {mi:Mem} {w0:World},CtrB Try.prog 31 [(.pt ch_0_0 (At (Ty.own ch_2.1) ch_0_0 x1)),(.pt ch_1_0 (At yi ch_1_0 x2))] (MS1 x3 ch_2) (fun (ch:(Option Addr)×Nat×Nat)=>((.tup []):D)) (fun (ch:(Option Addr)×Nat×Nat)=>(MS1 (x3.1,x3.2.1,x3.e3,r.e4,x3.e5,x3.t5) (ch_2.1,ch_2.2.1,ch_2.e3,ch_2.e4,ch_2.e5,ch_2.e6,ch_2.e7,ch.1,ch.2.1,ch.t2,ch_2.e11,ch_2.e12,ch_2.e13,ch_2.e14,ch_2.e15,ch_2.t15))) mi w0
def fc6_.f (x1:Unit)(x2:Int)(x3:W2):Option W12:=if (0:Int)≤x2∧x2≤((x3.2.2.2.1).length:Int) then (some ((),(),(),x3.2.2.2.1.take (Int.toNat x2),(),())) else none
theorem fc6_.ok:fc6_.Ctr (fc6_.f):=by
 intro x1 x2 x3 ch_0_0 ch_1_0 ch_2 r h0 mi w0 ok hm
 delta fc6_.f at h0
 refine c_enterZ (n:=11) ok hm func31 rfl rfl rfl fun b0 hb a S=>c_hS S (.tk 0 6 (.alts (.run 6 true (.take 7 (.take 8 (.alts (.run 9 false .done .nil)))) .nil))) 9 (.c0 .n) ⟨Res.stay_cells,tv⟩ [(0,(.pt ch_0_0 (At (Ty.own ch_2.1) ch_0_0 x1))),(1,(.pt ch_1_0 (At yi ch_1_0 x2)))] rfl (by kernel_rfl) fun w S CL hw le=>?_
 refine h_ld1 S CL hw le (subR rfl) (v:=(.pointer (some ⟨ch_2.1,0,none⟩))) rfl T26 (fun _=>rfl) rfl rfl tv fun a S CL=>h_ld1 S CL hw le (subR rfl) (v:=(.pointer (some ⟨ch_2.1,0,none⟩))) rfl T26 (fun _=>rfl) rfl rfl tv fun a S CL=>h_nilchk S CL hw le (subR rfl) rfl rfl rfl rfl tv fun a S CL=>h_fieldAddr S CL hw le (subR rfl) rfl I72_3 T56 (by decide) rfl rfl rfl tv fun a S CL=>h_load1 S CL hw le (subR rfl) rfl .h T56 (v:=(.slice ch_2.e8 ch_2.e9 ch_2.e10)) rfl rfl rfl tv fun a S CL=>h_ld1 S CL hw le (subR rfl) (v:=(.int .i64 x2)) rfl T3 (fun _=>rfl) rfl rfl tv fun a S CL=>h_run' S rfl tv ?_
 obtain ⟨c1,h1⟩:=chk_of h0; clear h0
 refine s_cutO S (j:=x2) rfl .h5 underlying56 T51 (.inl rfl) rfl c1.1 c1.2 rfl fun a S=>CL.bk hw S (.c0 .n) le fun hw=>h_nilchk S CL hw le (subR rfl) rfl rfl rfl rfl tv fun a S CL=>h_fieldAddr S CL hw le (subR rfl) rfl I72_3 T56 (by decide) rfl rfl rfl tv fun a S CL=>h_run' S rfl tv (s_storeJ S 3 rfl rfl rfl rfl .h T56 rfl rfl fun w S=>?_)
 refine h_back ⟨fun h=>(nomatch h),?_⟩
 refine h_done ?_; clear CL hw le
 refine b_end ?_
 obtain rfl:=sI h1
 exact b_ret0 S rfl (S.retX (Hx:=[]) hb _ _ ((ch_2.e8,Int.toNat x2,ch_2.e10):(Option Addr)×Nat×Nat) (.c0 (.c0 (.c0 (.c0 (.c0 (.c0 (.c0 (.c0 .n)))))))) tv)
abbrev fd_.Ty:Type:=Bool→(List Int)→Nat→(List Int)→W2→Option W10
def fd_.Ctr (s:fd_.Ty):Prop:=∀ {x1:Bool} {x2:List Int} {x3:Nat} {x4:List Int} {x5:W2} {ch_0_0:Addr} {ch_1_0:Addr} {ch_2_0:Addr} {ch_3_0:Addr} {ch_4:W3} {r:W10} (h0:s x1 x2 x3 x4 x5=some r) {mi:Mem} {w0:World},CtrB Try.prog 33 [(.pt ch_0_0 (At Ty.bool ch_0_0 x1)),(.pt ch_1_0 (At (Ty.arr .u64 4) ch_1_0 x2)),(.pt ch_2_0 (At (Ty.mid ch_4.e6) ch_2_0 x3)),(.pt ch_3_0 (At (Ty.arr .u64 4) ch_3_0 x4))] (MS1 x5 ch_4) (fun (ch:W11)=>((.tup []):D)) (fun (ch:W11)=>(MS1 (x5.1,r.2.1,x5.e3,x5.e4,x5.e5,x5.t5) (ch_4.1,ch_4.2.1,ch_4.e3,ch.1,ch.2.1,ch.e3,ch.t3,ch_4.e8,ch_4.e9,ch_4.e10,ch_4.e11,ch_4.e12,ch_4.e13,ch_4.e14,ch_4.e15,ch_4.t15))) mi w0
def fd_.f (x1:Bool)(x2:List Int)(x3:Nat)(x4:List Int)(x5:W2):Option W10:=if x1=true then (some ((),(x5.2.1.1,x5.2.1.2.1,x5.2.1.2.2.1.set x3 (aput (atE x5.2.1.2.2.1 x3) x4 x2),x5.2.1.2.2.2),(),(),(),())) else (some ((),(x5.2.1.1,x5.2.1.2.1,x5.2.1.2.2.1.set x3 (adel (atE x5.2.1.2.2.1 x3) x4),x5.2.1.2.2.2),(),(),(),()))
theorem fd_.ok:fd_.Ctr (fd_.f):=by
 intro x1 x2 x3 x4 x5 ch_0_0 ch_1_0 ch_2_0 ch_3_0 ch_4 r h0 mi w0 ok hm
 delta fd_.f at h0
 refine c_enterZ (n:=10) ok hm func33 rfl rfl rfl fun b0 hb a S=>c_region (s_ld1 S (v:=(.bool x1)) rfl T4 (fun _=>rfl) rfl fun a S=>c_end ?_)
 rcases ite_of h0 with ⟨c1,h1⟩ | ⟨c1,h1⟩
 ·refine c_condT S rfl c1 (c_region' (s_ldF S (fun _=> .map (some (bAt ch_4.e6 x3))) (fun _=>ltR x3 ch_4.e6) rfl T73 (fun _=>rfl) rfl fun _ a S=>s_ldA S (fun (c:Unit)=>[.w4 x4]) rfl T35 (fun _=>rfl) rfl fun ch1 a S=>?_))
  refine s_ldA S (fun (c:Unit)=>[.w4 x2]) rfl T35 (fun _=>rfl) rfl fun ch2 a S=>?_
  have hm1:=S.slotLt (u:=5) rfl
  replace S:=S.slotMid (u:=5) rfl
  replace S:=S.famOpen (i:=x3) hm1 .h3
  refine s_mapput S (k:=x4) (y:=x2) rfl .h rfl (fun h=>⟨(),rfl,h⟩) rfl (fun h=>⟨(),rfl,h⟩) underlying73 KT35 fun w S=>?_
  replace S:=S.famClose hm1 .h .h3
  replace S:=S.slotMidB (u:=5) hm1 rfl
  refine c_end' (b_end ?_)
  obtain rfl:=sI h1
  exact b_ret0 S rfl (S.retX (Hx:=[]) hb _ _ ((ch_4.e4,ch_4.e5,ch_4.e6,ch_4.e7):W11) (.c0 (.c0 (.c0 (.c0 (.c0 (.c0 (.c0 (.c0 .n)))))))) tv)
 ·refine c_condF S rfl c1 (c_region' (s_ldF S (fun _=> .map (some (bAt ch_4.e6 x3))) (fun _=>ltR x3 ch_4.e6) rfl T73 (fun _=>rfl) rfl fun _ a S=>s_ldA S (fun (c:Unit)=>[.w4 x4]) rfl T35 (fun _=>rfl) rfl fun ch3 a S=>?_))
  have hm2:=S.slotLt (u:=8) rfl
  replace S:=S.slotMid (u:=8) rfl
  replace S:=S.famOpen (i:=x3) hm2 .h3
  refine s_delOn S (k:=x4) rfl .h rfl (fun h=>⟨(),rfl,h⟩) underlying73 KT35 fun w S=>?_
  replace S:=S.famClose hm2 .h .h3
  replace S:=S.slotMidB (u:=8) hm2 rfl
  refine c_end' (b_end ?_)
  obtain rfl:=sI h1
  exact b_ret0 S rfl (S.retX (Hx:=[]) hb _ _ ((ch_4.e4,ch_4.e5,ch_4.e6,ch_4.e7):W11) (.c0 (.c0 (.c0 (.c0 (.c0 (.c0 (.c0 (.c0 .n)))))))) tv)
def fg_.f:Clo→W2→Option W2
  | .nil,_=>none
  | .c30 x0_ x1_,x1=>(fb3_.f x0_ x1_ x1).bind fun r=>some (x1.1,r.2.1,x1.2.2.1,x1.2.2.2.1,x1.2.2.2.2.1,x1.2.2.2.2.2)
  | .c31 x0_ x1_,x1=>(fc6_.f x0_ x1_ x1).bind fun r=>some (x1.1,x1.2.1,x1.2.2.1,r.2.2.2.1,x1.2.2.2.2.1,x1.2.2.2.2.2)
  | .c33 x0_ x1_ x2_ x3_,x1=>(fd_.f x0_ x1_ x2_ x3_ x1).bind fun r=>some (x1.1,r.2.1,x1.2.2.1,x1.2.2.2.1,x1.2.2.2.2.1,x1.2.2.2.2.2)
theorem fg_.ok:∀ {c:Clo} {cc:List Addr} {x1:W2} {ch_0:W3} {r:W2} (h0:fg_.f c x1=some r) {mi:Mem} {w0:World},CtrV Try.prog (cloV c cc) (cloR ch_0.1 ch_0.e5 ch_0.e6 ch_0.e7 c cc) (MS1 x1 ch_0) (fun (ch:W13)=>(MS1 r (ch_0.1,ch.1,ch.2.1,ch.e3,ch.e4,ch.e5,ch.e6,ch.e7,ch.e8,ch.e9,ch.e10,ch.e11,ch.e12,ch.e13,ch.e14,ch.t14))) mi w0:=by
  intro c cc x1 ch_0 r h0 mi w0 hR hm
  cases c with
  | nil=>exact (nomatch h0)
  | c30 x0_ x1_ =>
    delta fg_.f at h0; obtain ⟨r1,e1,h1⟩:=bind_of h0
    obtain rfl:=sI h1
    exact ⟨30,[.pt (cA cc 0) (At (Ty.slice yb) (cA cc 0) x0_), .pt (cA cc 1) (At (Ty.pid ch_0.e5) (cA cc 1) x1_)],rfl,N30,(fb3_.ok e1 ⟨⟨hR.1,At.mono _ _ _⟩,⟨hR.2.1,At.mono _ _ _⟩,tv⟩ hm).mono fun e w' h=>h.conv fun ch=>⟨((ch_0.2.1,ch_0.e3,ch.1,ch.2.1,ch.e3,ch.t3,ch_0.e8,ch_0.e9,ch_0.e10,ch_0.e11,ch_0.e12,ch_0.e13,ch_0.e14,ch_0.e15,ch_0.t15):W13),rfl,rfl⟩⟩
  | c31 x0_ x1_ =>
    delta fg_.f at h0; obtain ⟨r1,e1,h1⟩:=bind_of h0
    obtain rfl:=sI h1
    exact ⟨31,[.pt (cA cc 0) (At (Ty.own ch_0.1) (cA cc 0) x0_), .pt (cA cc 1) (At yi (cA cc 1) x1_)],rfl,N31,(fc6_.ok e1 ⟨⟨hR.1,At.mono _ _ _⟩,⟨hR.2.1,At.mono _ _ _⟩,tv⟩ hm).mono fun e w' h=>h.conv fun ch=>⟨((ch_0.2.1,ch_0.e3,ch_0.e4,ch_0.e5,ch_0.e6,ch_0.e7,ch.1,ch.2.1,ch.t2,ch_0.e11,ch_0.e12,ch_0.e13,ch_0.e14,ch_0.e15,ch_0.t15):W13),rfl,rfl⟩⟩
  | c33 x0_ x1_ x2_ x3_ =>
    delta fg_.f at h0; obtain ⟨r1,e1,h1⟩:=bind_of h0
    obtain rfl:=sI h1
    exact ⟨33,[.pt (cA cc 0) (At Ty.bool (cA cc 0) x0_), .pt (cA cc 1) (At (Ty.arr .u64 4) (cA cc 1) x1_), .pt (cA cc 2) (At (Ty.mid ch_0.e6) (cA cc 2) x2_), .pt (cA cc 3) (At (Ty.arr .u64 4) (cA cc 3) x3_)],rfl,N33,(fd_.ok e1 ⟨⟨hR.1,At.mono _ _ _⟩,⟨hR.2.1,At.mono _ _ _⟩,⟨hR.2.2.1,At.mono _ _ _⟩,⟨hR.2.2.2.1,At.mono _ _ _⟩,tv⟩ hm).mono fun e w' h=>h.conv fun ch=>⟨((ch_0.2.1,ch_0.e3,ch.1,ch.2.1,ch.e3,ch.t3,ch_0.e8,ch_0.e9,ch_0.e10,ch_0.e11,ch_0.e12,ch_0.e13,ch_0.e14,ch_0.e15,ch_0.t15):W13),rfl,rfl⟩⟩
abbrev fd8_.Ty:Type:=W2→Int→Option W2
def fd8_.Ctr (s:fd8_.Ty):Prop:=∀ {x1:W2} {x2:Int} {ch_0:W3} {r:W2} (h0:s x1 x2=some r) {mi:Mem} {w0:World},CtrB Try.prog 25 [(.v (.pointer (some ⟨ch_0.1,0,none⟩))),(.i x2)] (MS1 x1 ch_0) (fun (ch:W13)=>((.tup []):D)) (fun (ch:W13)=>(MS1 r (ch_0.1,ch.1,ch.2.1,ch.e3,ch.e4,ch.e5,ch.e6,ch.e7,ch.e8,ch.e9,ch.e10,ch.e11,ch.e12,ch.e13,ch.e14,ch.t14))) mi w0
def fd8_.b1 (x2:Int)(rec1:Int→(List L39)→W14→(List L76)→W15→W16→Int→(List L51)→(List Clo)→(List (List Int))→Option W2)(y1:Int)(y2:List L39)(y3:W14)(y4:List L76)(y5:W15)(y6:W16)(y7:Int)(y8:List L51)(y9:List Clo)(y10:List (List Int)):Option W2:=if (decide (x2<y1))=true then (if (0:Int)≤(wr .i64 (y1 - 1))∧(wr .i64 (y1 - 1))<((y9).length:Int) then ((fg_.f (gt y9 (wr .i64 (y1 - 1))) (y2,(y3,y4,y5,y6),y7,y8,y9,y10)).bind fun t4=>(if (0:Int)≤(wr .i64 (y1 - 1))∧(wr .i64 (y1 - 1))≤((t4.2.2.2.2.1).length:Int) then (rec1 (wr .i64 (y1 - 1)) t4.1 t4.2.1.1 t4.2.1.2.1 t4.2.1.2.2.1 t4.2.1.2.2.2 t4.2.2.1 t4.2.2.2.1 (t4.2.2.2.2.1.take (Int.toNat (wr .i64 (y1 - 1)))) t4.2.2.2.2.2) else none)) else none) else (some (y2,(y3,y4,y5,y6),y7,y8,y9,y10))
def fd8_.l1 (x2:Int):Nat→Int→(List L39)→W14→(List L76)→W15→W16→Int→(List L51)→(List Clo)→(List (List Int))→Option W2
  | 0,_,_,_,_,_,_,_,_,_,_=>none
  | q+1,y1,y2,y3,y4,y5,y6,y7,y8,y9,y10=>fd8_.b1 x2 (fd8_.l1 x2 q) y1 y2 y3 y4 y5 y6 y7 y8 y9 y10
def fd8_.f (k:Nat)(x1:W2)(x2:Int):Option W2:=if (decide (x2<0))=true then (some x1) else ((fd5_.f x1).bind fun t1=>(fd8_.l1 x2 k t1 x1.1 x1.2.1.1 x1.2.1.2.1 x1.2.1.2.2.1 x1.2.1.2.2.2 x1.2.2.1 x1.2.2.2.1 x1.2.2.2.2.1 x1.2.2.2.2.2))
theorem fd8_.ok (k:Nat):fd8_.Ctr (fd8_.f k):=by
 intro x1 x2 ch_0 r h0 mi w0 ok hm
 delta fd8_.f at h0
 refine c_enterZ (n:=33) ok hm func25 rfl rfl rfl fun b0 hb a S=>wp_seq (c_region (s_mv1 S rfl fun a S=>s_bi S rfl fun a S=>c_end ?_))
 rcases ite_of h0 with ⟨c1,h1⟩ | ⟨c1,h1⟩
 ·refine c_condT S rfl c1 (wp_ret (x_thenR ?_))
  obtain rfl:=sI h1
  exact b_ret0 S rfl (S.retX (Hx:=[]) hb _ _ (ch_0.2:W13) (.c0 (.c0 (.c0 (.c0 (.c0 (.c0 (.c0 (.c0 .n)))))))) tv)
 ·refine c_condF S rfl c1 (wp_skip (x_thenN (c_region (s_mv1 S rfl fun a S=>bindX h1 fun t1 et1 h2=>s_callK S (fd5_.ok (ch_0:=ch_0) et1) N24 rfl .pre (fun _=> .c8) rfl fun ch1 m le1 a w S=>s_as1 S rfl fun a S=>c_end (wp_block ?_)))))
  refine c_loop (fun q1 a w=>∃ (m:Mem) (y1:Int) (A1:Option Addr) (cp1:Nat) (y2:List L39) (g1:Nat) (y3:List ((List Int)×Option Nat)) (G1:List Nat) (G2:List Nat) (G3:List Nat) (y4:List L76) (y5:List (List ((List Int)×(List Int)))) (y6:List (List ((List Int)×Bool))) (y7:Int) (A2:Option Addr) (nn1:Nat) (cp2:Nat) (y8:List L51) (A3:Option Addr) (nn2:Nat) (cp3:Nat) (y9:List Clo) (A4:Option Addr) (nn3:Nat) (cp4:Nat) (y10:List (List Int)),St 33 m b0 [(4,(.i y1)),(0,(.v (.pointer (some ⟨ch_0.1,0,none⟩)))),(1,(.i x2))] (MS1 (y2,(y3,y4,y5,y6),y7,y8,y9,y10) (ch_0.1,A1,cp1,g1,G1,G2,G3,A2,nn1,cp2,A3,nn2,cp3,A4,nn3,cp4)) a w∧fd8_.l1 x2 q1 y1 y2 y3 y4 y5 y6 y7 y8 y9 y10=some r) ?_ ?_ (k:=k) ⟨_,t1,ch_0.2.1,ch_0.e3,x1.1,ch_0.e4,x1.2.1.1,ch_0.e5,ch_0.e6,ch_0.e7,x1.2.1.2.1,x1.2.1.e3,x1.2.1.t3,x1.e3,ch_0.e8,ch_0.e9,ch_0.e10,x1.e4,ch_0.e11,ch_0.e12,ch_0.e13,x1.e5,ch_0.e14,ch_0.e15,ch_0.t15,x1.t5,(S.sb rfl (.c0 (.c0 (.c0 (.c0 (.c0 (.c0 (.c0 (.c0 .n))))))))),h2⟩
  ·rintro a w ⟨m,y1,A1,cp1,y2,g1,y3,G1,G2,G3,y4,y5,y6,y7,A2,nn1,cp2,y8,A3,nn2,cp3,y9,A4,nn3,cp4,y10,S,h0⟩
   exact (nomatch (show (none:Option W2)=some r from h0))
  ·clear S h2
   rintro q1 a w ⟨m,y1,A1,cp1,y2,g1,y3,G1,G2,G3,y4,y5,y6,y7,A2,nn1,cp2,y8,A3,nn2,cp3,y9,A4,nn3,cp4,y10,S,h0⟩
   replace h0:fd8_.b1 x2 (fd8_.l1 x2 q1) y1 y2 y3 y4 y5 y6 y7 y8 y9 y10=some r:=h0
   delta fd8_.b1 at h0
   refine wp_seq (c_region (s_mv2 S rfl fun a S=>s_bi S rfl fun a S=>c_end ?_))
   rcases ite_of h0 with ⟨c2,h1⟩ | ⟨c2,h1⟩
   ·refine c_condT S rfl c2 (wp_skip (x_thenN (wp_seq (wp_block (c_region (s_mv1 S rfl fun a S=>s_nilchk S rfl rfl fun a S=>s_fieldAddr S rfl I72_4 T70 (by decide) rfl rfl fun a S=>s_load1 S rfl .h T70 (v:=(.slice A3 nn2 cp3)) rfl rfl fun a S=>s_mv1 S rfl fun a S=>s_bi S rfl fun a S=>?_))))))
    obtain ⟨c3,h2⟩:=chk_of h1; clear h1
    refine s_iaddrO S (ty':=(YC ch_0.1 G1 G2 G3)) rfl .h6 rfl underlying70 T1 c3.1 c3.2 rfl fun g2 a hA1 S=>s_ldRF S (ty':=(YC ch_0.1 G1 G2 G3)) (i:=(wr .i64 (y1 - 1))) (off:=0) (fun (c:List Addr)=>cloV (gt y9 (wr .i64 (y1 - 1))) c) (fun (c:List Addr)=>cloR ch_0.1 G1 G2 G3 (gt y9 (wr .i64 (y1 - 1))) c) rfl hA1 .h6 T1 c3.1 c3.2 rfl (fun _=>rfl) rfl fun ch6 a S=>bindX h2 fun t4 et4 h3=>s_callKV S (fg_.ok et4) rfl .pre (fun _=> .c8) rfl fun ch7 m le1 a w S=>c_end (c_region' (s_mv2 S rfl fun a S=>s_nilchk S rfl rfl fun a S=>s_fieldAddr S rfl I72_4 T70 (by decide) rfl rfl fun a S=>s_load1 S rfl .h T70 (v:=(.slice ch7.e10 ch7.e11 ch7.e12)) rfl rfl fun a S=>s_mv1 S rfl fun a S=>s_bi S rfl fun a S=>?_))
    obtain ⟨c4,h4⟩:=chk_of h3; clear h3
    refine s_cutO S (j:=(wr .i64 (y1 - 1))) rfl .h6 underlying70 T1 (.inl rfl) rfl c4.1 c4.2 rfl fun a S=>s_nilchk S rfl rfl fun a S=>s_fieldAddr S rfl I72_4 T70 (by decide) rfl rfl fun a S=>s_storeJ S 4 rfl rfl rfl rfl .h T70 rfl rfl fun w S=>c_end' (x_blockN (x_thenN (c_region' (s_mv1 S rfl fun a S=>s_bi S rfl fun a S=>s_as1 S rfl fun a S=>c_end' (x_thenN ?_)))))
    exact ⟨_,(wr .i64 (y1 - 1)),ch7.1,ch7.2.1,t4.1,ch7.e3,t4.2.1.1,ch7.e4,ch7.e5,ch7.e6,t4.2.1.2.1,t4.2.1.e3,t4.2.1.t3,t4.e3,ch7.e7,ch7.e8,ch7.e9,t4.e4,ch7.e10,(Int.toNat (wr .i64 (y1 - 1))),ch7.e12,(t4.e5.take (Int.toNat (wr .i64 (y1 - 1)))),ch7.e13,ch7.e14,ch7.t14,t4.t5,(S.sb rfl (.c0 (.c0 (.c0 (.c0 (.c0 (.c0 (.c0 (.c0 .n))))))))),h4⟩
   ·refine c_condF S rfl c2 (wp_exit (x_thenX (x_thenX (x_blockX (b_end ?_)))))
    obtain rfl:=sI h1
    exact b_ret0 S rfl (S.retX (Hx:=[]) hb _ _ ((A1,cp1,g1,G1,G2,G3,A2,nn1,cp2,A3,nn2,cp3,A4,nn3,cp4):W13) (.c0 (.c0 (.c0 (.c0 (.c0 (.c0 (.c0 (.c0 .n)))))))) tv)
abbrev ff_.Ty:Type:=(List Int)→(List Int)→Option Int
def ff_.Ctr (s:ff_.Ty):Prop:=∀ {x1:List Int} {x2:List Int} {r:Int} (h0:s x1 x2=some r) {mi:Mem} {w0:World},CtrB Try.prog 44 [(.a4 x1),(.a4 x2)] [] (fun (ch:Unit)=>((.i r):D)) (fun (ch:Unit)=>[]) mi w0
def ff_.j1 (x1:List Int)(x2:List Int)(y1:Int):Option Int:=if (0:Int)≤y1∧y1<4 then (if (decide ((rd x1 y1)<(rd x2 y1)))=true then (some (-1)) else (some 1)) else none
def ff_.b1 (x1:List Int)(x2:List Int)(rec1:Int→Option Int)(y3:Int):Option Int:=if (0:Int)≤y3∧y3<4 then (if ((rd x1 y3)==(rd x2 y3))=true then (rec1 (wr .i64 (y3 - 1))) else (ff_.j1 x1 x2 y3)) else none
def ff_.l1 (x1:List Int)(x2:List Int):Nat→Int→Option Int
  | 0,_=>none
  | q+1,y3=>ff_.b1 x1 x2 (ff_.l1 x1 x2 q) y3
def ff_.f (k:Nat)(x1:List Int)(x2:List Int):Option Int:=if (decide (x1=x2))=true then (some 0) else (ff_.l1 x1 x2 k 3)
theorem ff_.ok (k:Nat):ff_.Ctr (ff_.f k):=by
 intro x1 x2 r h0 mi w0 ok hm
 delta ff_.f at h0
 refine c_enterZ (n:=25) ok hm func44 rfl rfl rfl fun b0 hb a S=>c_region (s_box S rfl rfl rfl fun g1 a w S=>s_box S rfl rfl rfl fun g2 a w S=>s_as1 S rfl fun a S=>c_end (wp_seq (c_region (s_loada S rfl .h1 T35 (s':=[.w4 x1]) rfl rfl fun a S=>s_loada S rfl .h T35 (s':=[.w4 x2]) rfl rfl fun a S=>s_eqa S rfl rfl underlying35 underlying32 T32 Q35 rfl fun a S=>c_end ?_))))
 rcases ite_of h0 with ⟨c1,h1⟩ | ⟨c1,h1⟩
 ·refine c_condT S rfl c1 (c_region (s_as1 S rfl fun a S=>c_end (wp_ret (x_thenR ?_))))
  obtain rfl:=sI h1
  exact b_ret1 (d:=(.i 0)) S rfl rfl (S.rt hb)
 ·refine c_condF S rfl c1 (wp_skip (x_thenN (c_region (s_as1 S rfl fun a S=>c_end (wp_seq_k fun K1 hK1=>?_)))))
  have j1:∀ m y1 g9 g10 a w,St 25 m b0 [(5,(.i y1)),(3,(.p g9)),(2,(.p g10))] [Res.cells g9 35 [.w4 x2],Res.cells g10 35 [.w4 x1]] a w→ff_.j1 x1 x2 y1=some r→K1 a w:=by
   intro m y1 g9 g10 a w S h0
   delta ff_.j1 at h0
   refine hK1 a w (wp_seq ?_)
   refine wp_seq (c_hS S (.tk 0 7 .done) 7 (.c0 (.c0 .n)) ⟨Res.stay_cells,Res.stay_cells,tv⟩ [(5,(.i y1)),(3,(.p g9)),(2,(.p g10))] rfl (by kernel_rfl) ?_); clear S; intro w S CL hw le
   refine h_mv1 S CL hw le rfl tv fun a S CL=>?_
   obtain ⟨c2,h1⟩:=chk_of h0; clear h0
   refine h_iaddr S CL hw le (subR rfl) rfl rfl underlying35 T32 c2.1 c2.2 (mul1 _ _) rfl rfl tv fun a S CL=>h_loadi S CL hw le (subR rfl) (i:=y1) rfl .h1 T32 .h rfl c2.1 c2.2 rfl rfl tv fun a S CL=>h_mv1 S CL hw le rfl tv fun a S CL=>h_iaddr S CL hw le (subR rfl) rfl rfl underlying35 T32 c2.1 c2.2 (mul1 _ _) rfl rfl tv fun a S CL=>h_loadi S CL hw le (subR rfl) (i:=y1) rfl .h T32 .h rfl c2.1 c2.2 rfl rfl tv fun a S CL=>h_bin S CL hw le (subR rfl) rfl rfl rfl rfl rfl tv fun a S CL=>?_
   refine h_done ?_; clear CL hw le
   refine x_thenN ?_
   rcases ite_of h1 with ⟨c3,h2⟩ | ⟨c3,h2⟩
   ·refine c_condT S rfl c3 (c_region (s_as1 S rfl fun a S=>c_end (wp_ret (x_thenR ?_))))
    obtain rfl:=sI h2
    exact b_ret1 (d:=(.i (-1))) S rfl rfl (S.rt hb)
   ·refine c_condF S rfl c3 (wp_skip (x_thenN (c_region (s_as1 S rfl fun a S=>c_end (wp_ret ?_)))))
    obtain rfl:=sI h2
    exact b_ret1 (d:=(.i 1)) S rfl rfl (S.rt hb)
  refine wp_block ?_
  refine c_loop (fun q1 a w=>∃ m y3 g15 g16,St 25 m b0 [(5,(.i y3)),(3,(.p g15)),(2,(.p g16))] [Res.cells g15 35 [.w4 x2],Res.cells g16 35 [.w4 x1]] a w∧ff_.l1 x1 x2 q1 y3=some r) ?_ ?_ (k:=k) ⟨_,3,g2,g1,(S.sb rfl (.c0 (.c0 .n))),h1⟩
  ·rintro a w ⟨m,y3,g15,g16,S,h0⟩
   exact (nomatch (show (none:Option Int)=some r from h0))
  ·clear S h1
   rintro q1 a w ⟨m,y3,g15,g16,S,h0⟩
   replace h0:ff_.b1 x1 x2 (ff_.l1 x1 x2 q1) y3=some r:=h0
   delta ff_.b1 at h0
   refine wp_seq ?_
   refine wp_seq (c_hS S (.tk 0 7 .done) 7 (.c0 (.c0 .n)) ⟨Res.stay_cells,Res.stay_cells,tv⟩ [(5,(.i y3)),(3,(.p g15)),(2,(.p g16))] rfl (by kernel_rfl) ?_); clear S; intro w S CL hw le
   refine h_mv1 S CL hw le rfl tv fun a S CL=>?_
   obtain ⟨c4,h1⟩:=chk_of h0; clear h0
   refine h_iaddr S CL hw le (subR rfl) rfl rfl underlying35 T32 c4.1 c4.2 (mul1 _ _) rfl rfl tv fun a S CL=>h_loadi S CL hw le (subR rfl) (i:=y3) rfl .h1 T32 .h rfl c4.1 c4.2 rfl rfl tv fun a S CL=>h_mv1 S CL hw le rfl tv fun a S CL=>h_iaddr S CL hw le (subR rfl) rfl rfl underlying35 T32 c4.1 c4.2 (mul1 _ _) rfl rfl tv fun a S CL=>h_loadi S CL hw le (subR rfl) (i:=y3) rfl .h T32 .h rfl c4.1 c4.2 rfl rfl tv fun a S CL=>h_bin S CL hw le (subR rfl) rfl rfl rfl rfl rfl tv fun a S CL=>?_
   refine h_done ?_; clear CL hw le
   refine x_thenN ?_
   rcases ite_of h1 with ⟨c5,h2⟩ | ⟨c5,h2⟩
   ·refine c_condT S rfl c5 (wp_skip (x_thenN (wp_block (c_region' (s_mv1 S rfl fun a S=>s_bi S rfl fun a S=>s_as1 S rfl fun a S=>c_end' (x_blockN (x_thenN ?_)))))))
    exact ⟨_,(wr .i64 (y3 - 1)),g15,g16,(S.sb rfl (.c0 (.c0 .n))),h2⟩
   ·refine c_condF S rfl c5 (wp_exit (x_thenX (x_thenX (x_blockX (x_thenN ?_)))))
    exact j1 _ y3 g15 g16 a w (S.sb rfl (.c0 (.c0 .n))) h2
abbrev fe6_.Ty:Type:=((List Int)×(List Int))→(List Int)→Option Int
def fe6_.Ctr (s:fe6_.Ty):Prop:=∀ {x1:(List Int)×(List Int)} {x2:List Int} {r:Int} (h0:s x1 x2=some r) {mi:Mem} {w0:World},CtrB Try.prog 66 [(.agg [.w4 x1.1, .w4 x1.2]),(.a4 x2)] [] (fun (ch:Unit)=>((.i r):D)) (fun (ch:Unit)=>[]) mi w0
def fe6_.f (k:Nat)(x1:(List Int)×(List Int))(x2:List Int):Option Int:=(ff_.f k x1.1 x2).bind fun t1=>(some t1)
theorem fe6_.ok (k:Nat):fe6_.Ctr (fe6_.f k):=by
 intro x1 x2 r h0 mi w0 ok hm
 delta fe6_.f at h0
 refine c_enterZ (n:=9) ok hm func66 rfl rfl rfl fun b0 hb a S=>c_region (s_box S rfl rfl rfl fun g1 a w S=>s_box S rfl rfl rfl fun g2 a w S=>s_as1 S rfl fun a S=>c_end (c_region (s_fieldAddr S rfl I82_0 T35 (by decide) rfl rfl fun a S=>s_loada S rfl .h1 T35 (s':=[.w4 x1.1]) rfl rfl fun a S=>s_loada S rfl .h T35 (s':=[.w4 x2]) rfl rfl fun a S=>bindX h0 fun t1 et1 h1=>s_callK S (ff_.ok k et1) N44 rfl .pre (fun _=> .n) rfl fun ch1 m le1 a w S=>s_as1 S rfl fun a S=>c_end (wp_ret ?_))))
 obtain rfl:=sI h1
 exact b_ret1 (d:=(.i t1)) S rfl rfl (S.rt hb)
abbrev fc9_.Ty:Type:=W17→(List Int)→Option (Int×Bool)
def fc9_.Ctr (s:fc9_.Ty):Prop:=∀ {x1:W17} {x2:List Int} {ch_0_0:Option Addr} {ch_0_1:Nat} {r:Int×Bool} (h0:s x1 x2=some r) {mi:Mem} {w0:World},CtrB Try.prog 65 [(.q Y82 ch_0_0 ch_0_1 x1),(.a4 x2),(.v (.func (.func 66) #[] #[]))] [] (fun (ch:Unit)=>((.tup [(false,[.i r.1]),(false,[.b r.2])]):D)) (fun (ch:Unit)=>[]) mi w0
def fc9_.j1 (k:Nat)(x1:W17)(x2:List Int)(y1:Int):Option (Int×Bool):=if (decide (y1<((x1).length:Int)))=true then (if (0:Int)≤y1∧y1<((x1).length:Int) then ((fe6_.f k (gt x1 y1) x2).bind fun t1=>(some (y1,t1==0))) else none) else (some (y1,false))
def fc9_.b1 (k:Nat)(x1:W17)(x2:List Int)(rec1:Int→Int→Option (Int×Bool))(y4:Int)(y5:Int):Option (Int×Bool):=if (decide (y5<y4))=true then (if (0:Int)≤(wr .i64 (shr (wr .u64 (wr .i64 (y5+y4))) 1))∧(wr .i64 (shr (wr .u64 (wr .i64 (y5+y4))) 1))<((x1).length:Int) then ((fe6_.f k (gt x1 (wr .i64 (shr (wr .u64 (wr .i64 (y5+y4))) 1))) x2).bind fun t4=>(if (decide (t4<0))=true then (rec1 y4 (wr .i64 ((wr .i64 (shr (wr .u64 (wr .i64 (y5+y4))) 1))+1))) else (rec1 (wr .i64 (shr (wr .u64 (wr .i64 (y5+y4))) 1)) y5))) else none) else (fc9_.j1 k x1 x2 y5)
def fc9_.l1 (k:Nat)(x1:W17)(x2:List Int):Nat→Int→Int→Option (Int×Bool)
  | 0,_,_=>none
  | q+1,y4,y5=>fc9_.b1 k x1 x2 (fc9_.l1 k x1 x2 q) y4 y5
def fc9_.f (k:Nat)(x1:W17)(x2:List Int):Option (Int×Bool):=fc9_.l1 k x1 x2 k ((x1).length:Int) 0
theorem fc9_.ok (k:Nat):fc9_.Ctr (fc9_.f k):=by
 intro x1 x2 ch_0_0 ch_0_1 r h0 mi w0 ok hm
 delta fc9_.f at h0
 refine c_enterZ (n:=49) ok hm func65 rfl rfl rfl fun b0 hb a S=>c_region (s_box S rfl rfl rfl fun g1 a w S=>s_as2 S rfl fun a S=>c_end (c_region (s_mv1 S rfl fun a S=>s_lenS S rfl underlying37 rfl fun a S=>s_as1 S rfl fun a S=>c_end (c_region (s_mv1 S rfl fun a S=>s_as2 S rfl fun a S=>c_end (wp_seq_k fun K1 hK1=>?_))))))
 have j1:∀ m y1 g5 a w,St 49 m b0 [(9,(.i y1)),(8,(.i ((x1).length:Int))),(4,(.p g5)),(0,(.q Y82 ch_0_0 ch_0_1 x1)),(2,(.v (.func (.func 66) #[] #[])))] [Res.cells g5 35 [.w4 x2]] a w→fc9_.j1 k x1 x2 y1=some r→K1 a w:=by
  intro m y1 g5 a w S h0
  delta fc9_.j1 at h0
  refine hK1 a w ?_
  refine wp_seq (c_hS S (.tk 0 11 (.alts (.run 11 true (.tk 12 4 .done) .nil))) 16 (.c0 .n) ⟨Res.stay_cells,tv⟩ [(9,(.i y1)),(8,(.i ((x1).length:Int))),(4,(.p g5)),(0,(.q Y82 ch_0_0 ch_0_1 x1)),(2,(.v (.func (.func 66) #[] #[])))] rfl (by kernel_rfl) ?_); clear S; intro w S CL hw le
  refine h_mv3 S CL hw le rfl tv tv tv fun a S CL=>h_bin S CL hw le (subR rfl) rfl rfl rfl rfl rfl tv fun a S CL=>h_mv1 S CL hw le rfl tv fun a S CL=>?_
  rcases ite_of h0 with ⟨c1,h1⟩ | ⟨c1,h1⟩
  ·refine h_mv3 S CL hw le rfl ⟨_,_,rfl,rfl,c1⟩ ⟨_,_,rfl,rfl,c1⟩ ⟨_,_,rfl,rfl,c1⟩ fun a S CL=>?_
   obtain ⟨c2,h2⟩:=chk_of h1; clear h1
   refine h_iaddrS S CL hw le (subR rfl) rfl rfl rfl underlying37 T82 c2.1 c2.2 rfl rfl ⟨_,_,rfl,rfl,c1⟩ fun p1 a S CL=>h_ldA S CL hw le (subR rfl) (fun (c:Unit×Unit)=>[.w4 ((gt x1 y1).1), .w4 ((gt x1 y1).2)]) rfl T82 (fun _=>rfl) rfl rfl ⟨_,_,rfl,rfl,c1⟩ fun ch1 a S CL=>?_
   refine h_loada S CL hw le (subR rfl) rfl .h T35 (s':=[.w4 x2]) rfl rfl rfl ⟨_,_,rfl,rfl,c1⟩ fun a S CL=>h_run' S rfl ⟨_,_,rfl,rfl,c1⟩ (bindX h2 fun t1 et1 h3=>s_callK S (fe6_.ok k et1) N66 rfl .pre (fun _=> .n) rfl fun ch2 m le1 a w S=>?_)
   replace le:=le.trans le1
   refine CL.bk hw S (.c0 .n) le fun hw=>?_
   replace CL:=CL.add (t:=46) (d:=(.i t1)) S rfl rfl
   refine h_bin S CL hw le (subR rfl) rfl rfl rfl rfl rfl ⟨_,_,rfl,rfl,c1⟩ fun a S CL=>h_pick S CL hw le (subR rfl) (b:=true) (hc_of rfl c1) rfl rfl rfl tv fun a S CL=>h_assign S CL hw le (subR rfl) rfl rfl rfl tv fun a S CL=>h_assign S CL hw le (subR rfl) rfl rfl rfl tv fun a S CL=>?_
   refine h_done ?_; clear CL hw le
   refine x_thenN (wp_ret ?_)
   obtain rfl:=sI h3
   exact b_ret2 (d1:=(.i y1)) (d2:=(.b (t1==0))) S rfl rfl rfl fun ok1 ok2=>S.retX (Hx:=[]) hb _ _ (():Unit) .nil ⟨⟨ok1,tv⟩,⟨ok2,tv⟩,tv⟩
  ·refine h_sk4 S CL rfl (ne_bool c1) fun a S CL=>h_sk2 S CL rfl (ne_bool c1) fun a S CL=>h_skipRt S rfl rfl rfl (ne_bool c1) rfl fun a S=>CL.bk hw S (.c0 .n) le fun hw=>?_
   replace CL:=CL.add (t:=46) (d:= .u) S rfl rfl
   refine h_sk1 S CL rfl (ne_bool c1) fun a S CL=>h_pick S CL hw le (subR rfl) (b:=false) (hc_of rfl c1) rfl rfl rfl tv fun a S CL=>h_assign S CL hw le (subR rfl) rfl rfl rfl tv fun a S CL=>h_assign S CL hw le (subR rfl) rfl rfl rfl tv fun a S CL=>?_
   refine h_done ?_; clear CL hw le
   refine x_thenN (wp_ret ?_)
   obtain rfl:=sI h1
   exact b_ret2 (d1:=(.i y1)) (d2:=(.b false)) S rfl rfl rfl fun ok1 ok2=>S.retX (Hx:=[]) hb _ _ (():Unit) .nil ⟨⟨ok1,tv⟩,⟨ok2,tv⟩,tv⟩
 refine wp_block ?_
 refine c_loop (fun q1 a w=>∃ m y4 y5 g8,St 49 m b0 [(10,(.i y4)),(9,(.i y5)),(8,(.i ((x1).length:Int))),(4,(.p g8)),(0,(.q Y82 ch_0_0 ch_0_1 x1)),(2,(.v (.func (.func 66) #[] #[])))] [Res.cells g8 35 [.w4 x2]] a w∧fc9_.l1 k x1 x2 q1 y4 y5=some r) ?_ ?_ (k:=k) ⟨_,((x1).length:Int),0,g1,(S.sb rfl (.c0 .n)),h0⟩
 ·rintro a w ⟨m,y4,y5,g8,S,h0⟩
  exact (nomatch (show (none:Option (Int×Bool))=some r from h0))
 ·clear S h0
  rintro q1 a w ⟨m,y4,y5,g8,S,h0⟩
  replace h0:fc9_.b1 k x1 x2 (fc9_.l1 k x1 x2 q1) y4 y5=some r:=h0
  delta fc9_.b1 at h0
  refine wp_seq (c_region (s_mv2 S rfl fun a S=>s_bi S rfl fun a S=>c_end ?_))
  rcases ite_of h0 with ⟨c3,h1⟩ | ⟨c3,h1⟩
  ·refine c_condT S rfl c3 (wp_skip (x_thenN (wp_block (c_region (s_mv2 S rfl fun a S=>s_bi S rfl fun a S=>s_conv S rfl rfl underlying100 rfl fun a S=>s_shr S (e:=1) rfl rfl (by decide) rfl rfl fun a S=>s_conv S rfl rfl underlying3 rfl fun a S=>s_as1 S rfl fun a S=>c_end ?_)))))
   refine wp_seq (c_hS S (.tk 0 6 (.alts (.run 6 true (.take 7 .done) .nil))) 8 (.c0 .n) ⟨Res.stay_cells,tv⟩ [(11,(.i (wr .i64 (shr (wr .u64 (wr .i64 (y5+y4))) 1)))),(4,(.p g8)),(0,(.q Y82 ch_0_0 ch_0_1 x1)),(2,(.v (.func (.func 66) #[] #[])))] rfl (by kernel_rfl) ?_); clear S; intro w S CL hw le
   refine h_mv3 S CL hw le rfl tv tv tv fun a S CL=>?_
   obtain ⟨c4,h2⟩:=chk_of h1; clear h1
   refine h_iaddrS S CL hw le (subR rfl) rfl rfl rfl underlying37 T82 c4.1 c4.2 rfl rfl tv fun p4 a S CL=>h_ldA S CL hw le (subR rfl) (fun (c:Unit×Unit)=>[.w4 ((gt x1 (wr .i64 (shr (wr .u64 (wr .i64 (y5+y4))) 1))).1), .w4 ((gt x1 (wr .i64 (shr (wr .u64 (wr .i64 (y5+y4))) 1))).2)]) rfl T82 (fun _=>rfl) rfl rfl tv fun ch3 a S CL=>?_
   refine h_loada S CL hw le (subR rfl) rfl .h T35 (s':=[.w4 x2]) rfl rfl rfl tv fun a S CL=>h_run' S rfl tv (bindX h2 fun t4 et4 h3=>s_callK S (fe6_.ok k et4) N66 rfl .pre (fun _=> .n) rfl fun ch4 m le1 a w S=>?_)
   replace le:=le.trans le1
   refine CL.bk hw S (.c0 .n) le fun hw=>?_
   replace CL:=CL.add (t:=30) (d:=(.i t4)) S rfl rfl
   refine h_bin S CL hw le (subR rfl) rfl rfl rfl rfl rfl tv fun a S CL=>?_
   refine h_done ?_; clear CL hw le
   refine x_thenN ?_
   rcases ite_of h3 with ⟨c5,h4⟩ | ⟨c5,h4⟩
   ·refine c_condT S rfl c5 (c_region' (s_mv1 S rfl fun a S=>s_bi S rfl fun a S=>s_as1 S rfl fun a S=>c_end' (x_blockN (x_thenN ?_))))
    exact ⟨_,y4,(wr .i64 ((wr .i64 (shr (wr .u64 (wr .i64 (y5+y4))) 1))+1)),g8,(S.sb rfl (.c0 .n)),h4⟩
   ·refine c_condF S rfl c5 (c_region' (s_mv1 S rfl fun a S=>s_as1 S rfl fun a S=>c_end' (x_blockN (x_thenN ?_))))
    exact ⟨_,(wr .i64 (shr (wr .u64 (wr .i64 (y5+y4))) 1)),y5,g8,(S.sb rfl (.c0 .n)),h4⟩
  ·refine c_condF S rfl c3 (wp_exit (x_thenX (x_thenX (x_blockX (x_thenN ?_)))))
   exact j1 _ y5 g8 a w (S.sb rfl (.c0 .n)) h1
abbrev ff1_.Ty:Type:=W1→(List Int)→Option (List Int)
def ff1_.Ctr (s:ff1_.Ty):Prop:=∀ {x1:W1} {x2:List Int} {ch_0_0:Option Addr} {ch_0_1:Nat} {ch_0_2:Option Addr} {ch_0_3:Nat} {r:List Int} (h0:s x1 x2=some r) {mi:Mem} {w0:World},CtrB Try.prog 50 [(.agg (Y39.segs x1 ((),(),(),(ch_0_0,ch_0_1),(ch_0_2,ch_0_3)))),(.a4 x2)] [] (fun (ch:Unit)=>((.a4 r):D)) (fun (ch:Unit)=>[]) mi w0
def ff1_.f (k:Nat)(x1:W1)(x2:List Int):Option (List Int):=(fc9_.f k x1.2.2.2.2 x2).bind fun t1=>(if (!t1.2)=true then (some [0,0,0,0]) else (if (0:Int)≤t1.1∧t1.1<((x1.2.2.2.2).length:Int) then (some ((gt x1.2.2.2.2 t1.1).2)) else none))
theorem ff1_.ok (k:Nat):ff1_.Ctr (ff1_.f k):=by
 intro x1 x2 ch_0_0 ch_0_1 ch_0_2 ch_0_3 r h0 mi w0 ok hm
 delta ff1_.f at h0
 refine c_enterZ (n:=23) ok hm func50 rfl rfl rfl fun b0 hb a S=>c_region (s_box S rfl rfl rfl fun g1 a w S=>s_box S rfl rfl rfl fun g2 a w S=>s_alloc S Z35 rfl ⟨rfl,tv⟩ rfl fun g3 a w S=>c_end (c_region (s_fieldAddr S rfl I39_4 T37 (by decide) rfl rfl fun a S=>s_loadSl S rfl .h2 T37 (A:=ch_0_2) (len:=(x1.t4).length) (cap:=ch_0_3) rfl rfl fun a S=>s_loada S rfl .h1 T35 (s':=[.w4 x2]) rfl rfl fun a S=>bindX h0 fun t1 et1 h1=>s_callK S (fc9_.ok k et1) N65 rfl .pre (fun _=> .n) rfl fun ch1 m le1 a w S=>s_mv1 S rfl fun a S=>s_extract S rfl rfl rfl rfl fun a S=>s_extract S rfl rfl rfl rfl fun a S=>s_as2 S rfl fun a S=>c_end (wp_seq (c_region (s_mv1 S rfl fun a S=>s_not S rfl rfl fun a S=>c_end ?_))))))
 rcases ite_of h1 with ⟨c1,h2⟩ | ⟨c1,h2⟩
 ·refine c_condT S rfl c1 (c_region (s_build S (ds:=[]) (dv:=(.a4 [0,0,0,0])) rfl (fun _=>by kernel_rfl) ⟨rfl,tv⟩ rfl fun a S=>s_storeJ S 0 rfl rfl rfl rfl .h T35 rfl rfl fun w S=>c_end (wp_ret (x_thenR ?_))))
  obtain rfl:=sI h2
  exact b_ret1 (d:=(.a4 [0,0,0,0])) S rfl (resD_cell rfl .h T35 rfl rfl) (S.rt hb)
 ·refine c_condF S rfl c1 (wp_skip (x_thenN (c_region (s_fieldAddr S rfl I39_4 T37 (by decide) rfl rfl fun a S=>s_loadSl S rfl .h2 T37 (A:=ch_0_2) (len:=(x1.t4).length) (cap:=ch_0_3) rfl rfl fun a S=>s_mv1 S rfl fun a S=>?_))))
  obtain ⟨c2,h3⟩:=chk_of h2; clear h2
  refine s_iaddrS S rfl rfl rfl underlying37 T82 c2.1 c2.2 rfl fun p1 a S=>s_faddrP S (tF:=(Ty.arr .u64 4)) (y:=(gt x1.t4 t1.1).2) rfl I82_1 T35 (by decide) (fun m h=>(at_snd (at_0 h))) rfl fun a S=>s_ldA S (fun (c:Unit)=>[.w4 ((gt x1.t4 t1.1).2)]) rfl T35 (fun _=>rfl) rfl fun ch2 a S=>?_
  refine s_storeJ S 0 rfl rfl rfl rfl .h T35 rfl rfl fun w S=>c_end (wp_ret ?_)
  obtain rfl:=sI h3
  exact b_ret1 (d:=(.a4 ((gt x1.t4 t1.1).2))) S rfl (resD_cell rfl .h T35 rfl rfl) (S.rt hb)
abbrev fc8_.Ty:Type:=W2→(List Int)→(List Int)→Option W18
def fc8_.Ctr (s:fc8_.Ty):Prop:=∀ {x1:W2} {x2:List Int} {x3:List Int} {ch_0:W3} {r:W18} (h0:s x1 x2 x3=some r) {mi:Mem} {w0:World},CtrB Try.prog 39 [(.v (.pointer (some ⟨ch_0.1,0,none⟩))),(.agg [.b20 x2]),(.a4 x3)] (MS1 x1 ch_0) (fun (ch:W7)=>((.a4 r.1):D)) (fun (ch:W7)=>(MS1 (x1.1,r.e3,x1.e3,r.e5,r.e6,r.t6) (ch_0.1,ch_0.2.1,ch_0.e3,ch.1,ch.2.1,ch.e3,ch.e4,ch.e5,ch.e6,ch.e7,ch.e8,ch.e9,ch.e10,ch.e11,ch.e12,ch.t12))) mi w0
def fc8_.f (k:Nat)(x1:W2)(x2:List Int)(x3:List Int):Option W18:=(fe4_.f k x1 x2).bind fun t1=>(if t1.1.isSome=true then (if ((atE t1.2.2.1.2.1 (t1.1.getD 0)).2.2.1)=true then (some ([0,0,0,0],((),t1.2.2.1,(),t1.2.2.2.2.1,t1.2.2.2.2.2.1,t1.2.2.2.2.2.2))) else ((ff1_.f k ((atE t1.2.2.1.2.1 (t1.1.getD 0)).1) x3).bind fun t2=>(some (t2,((),t1.2.2.1,(),t1.2.2.2.2.1,t1.2.2.2.2.2.1,t1.2.2.2.2.2.2))))) else none)
theorem fc8_.ok (k:Nat):fc8_.Ctr (fc8_.f k):=by
 intro x1 x2 x3 ch_0 r h0 mi w0 ok hm
 delta fc8_.f at h0
 refine c_enterZ (n:=25) ok hm func39 rfl rfl rfl fun b0 hb a S=>c_region (s_box S rfl rfl rfl fun g1 a w S=>s_box S rfl rfl rfl fun g2 a w S=>s_alloc S Z35 rfl ⟨rfl,tv⟩ rfl fun g3 a w S=>c_end (wp_seq (c_region (s_mv1 S rfl fun a S=>s_eqp S (b:=false) rfl rfl underlying26 rfl rfl fun a S=>c_end (c_condF S rfl rfl (wp_skip (x_thenN (c_region (s_mv1 S rfl fun a S=>s_loada S rfl .h2 T31 (s':=[.b20 x2]) rfl rfl fun a S=>bindX h0 fun t1 et1 h1=>s_callK S (fe4_.ok k (ch_0:=ch_0) et1) N26 rfl (.sk (.sk (.sk .pre))) (fun _=> .c8) rfl fun ch1 m le1 a w S=>s_as1 S rfl fun a S=>c_end (wp_seq (c_region (s_mv1 S rfl fun a S=>?_))))))))))))
 obtain ⟨c1,h2⟩:=chk_of h1; clear h1
 have hl1:=S.slotPlt (u:=14) c1 rfl
 replace S:=S.slotP (u:=14) c1 rfl
 refine s_nilchk S rfl rfl fun a S=>s_fieldAddr S rfl I76_2 T4 (by decide) rfl rfl fun a S=>?_
 replace S:=S.famOpen (i:=(t1.1.getD 0)) hl1 .h2
 have hS:=S.structOpen (T:=(YE76 ch1.e3 ch1.e4)) (fun _=> .h) (((),(),(),(none,0),(none,0)),((),(),(),(none,0),(none,0)),(),(),(),(),())
 clear S; obtain ⟨ch2,S⟩:=hS
 refine s_load1 S rfl .h T4 (v:=(.bool ((atE t1.e3.2.1 (t1.1.getD 0)).e3))) rfl rfl fun a S=>?_
 replace S:=S.structClose (T:=(YE76 ch1.e3 ch1.e4)) (e:=atE t1.e3.2.1 (t1.1.getD 0)) (ch2:((YE76 ch1.e3 ch1.e4)).Ch) rfl .h
 replace S:=S.famShut hl1 .h .h2
 refine c_end ?_
 rcases ite_of h2 with ⟨c2,h3⟩ | ⟨c2,h3⟩
 ·refine c_condT S rfl c2 (c_region (s_build S (ds:=[]) (dv:=(.a4 [0,0,0,0])) rfl (fun _=>by kernel_rfl) ⟨rfl,tv⟩ rfl fun a S=>s_storeJ S 0 rfl rfl rfl rfl .h8 T35 rfl rfl fun w S=>c_end (wp_ret (x_thenR ?_))))
  obtain rfl:=sI h3
  exact b_ret1 (d:=(.a4 [0,0,0,0])) S rfl (resD_cell rfl .h8 T35 rfl rfl) fun ok=>S.retX (Hx:=[]) hb _ _ (ch1:W7) (.c0 (.c0 (.c0 (.c0 (.c0 (.c0 (.c0 (.c0 .n)))))))) ok
 ·refine c_condF S rfl c2 (wp_skip (x_thenN ?_))
  refine wp_seq (c_hS S (.take 0 (.take 4 (.alts (.run 1 true (.take 2 (.alts (.run 3 true (.alts (.run 5 true (.alts (.run 6 false .done .nil)) .nil)) .nil))) .nil)))) 6 (.c9 .n) ⟨Res.stay_cells,tv⟩ [(7,(.rf (ptrV ch1.2.1 t1.1) (ptrR ch1.2.1 t1.1))),(5,(.p g2))] rfl (by kernel_rfl) ?_); clear S; intro w S CL hw le
  refine h_mv1 S CL hw le rfl tv fun a S CL=>h_loada S CL hw le (subR rfl) rfl .h T35 (s':=[.w4 x3]) rfl rfl rfl tv fun a S CL=>h_run' S rfl tv ?_
  have hl1:=S.slotPlt (u:=19) c1 rfl
  replace S:=S.slotP (u:=19) c1 rfl
  replace CL:=CL.drop (lq':=[(23,(.a4 x3)),(7,(.rf (ptrV ch1.2.1 t1.1) (ptrR ch1.2.1 t1.1))),(5,(.p g2))]) (subR rfl)
  refine s_nilchk S rfl rfl fun a S=>CL.bk hw S (.c9 .n) le fun hw=>?_
  replace CL:=CL.add (t:=20) (d:=(.v (.pointer (some ⟨(bAt ch1.2.1 (t1.1.getD 0)),0,none⟩)))) S rfl rfl
  refine h_fieldAddr S CL hw le (subR rfl) rfl I76_0 T39 (by decide) rfl rfl rfl tv fun a S CL=>h_run' S rfl tv ?_
  replace S:=S.famOpen (i:=(t1.1.getD 0)) hl1 .h2
  have hS:=S.structOpen (T:=(YE76 ch1.e3 ch1.e4)) (fun _=> .h) (((),(),(),(none,0),(none,0)),((),(),(),(none,0),(none,0)),(),(),(),(),())
  clear S; obtain ⟨ch3,S⟩:=hS
  refine s_loada S rfl .h T39 (s':=(Y39.segs ((atE t1.e3.2.1 (t1.1.getD 0)).1) ch3.1)) rfl rfl fun a S=>?_
  replace S:=S.structClose (T:=(YE76 ch1.e3 ch1.e4)) (e:=atE t1.e3.2.1 (t1.1.getD 0)) (ch3:((YE76 ch1.e3 ch1.e4)).Ch) rfl .h
  replace S:=S.famShut hl1 .h .h2
  refine CL.bk hw S (.c9 .n) le fun hw=>h_run' S rfl tv (bindX h3 fun t2 et2 h4=>s_callK S (ff1_.ok k et2) N50 rfl .pre (fun _=> .n) rfl fun ch4 m le1 a w S=>?_)
  replace le:=le.trans le1
  refine CL.bk hw S (.c9 .n) le fun hw=>h_run' S rfl tv (s_store S rfl rfl rfl (s':=[.w4 t2]) .h8 T35 rfl rfl fun w S=>?_)
  refine h_back ⟨fun h=>(nomatch h),?_⟩
  refine h_done ?_; clear CL hw le
  refine x_thenN (wp_ret ?_)
  obtain rfl:=sI h4
  exact b_ret1 (d:=(.a4 t2)) S rfl (resD_cell rfl .h8 T35 rfl rfl) fun ok=>S.retX (Hx:=[]) hb _ _ (ch1:W7) (.c0 (.c0 (.c0 (.c0 (.c0 (.c0 (.c0 (.c0 .n)))))))) ok
abbrev fd7_.Ty:Type:=W2→(List Int)→(List Int)→Option W18
def fd7_.Ctr (s:fd7_.Ty):Prop:=∀ {x1:W2} {x2:List Int} {x3:List Int} {ch_0:W3} {r:W18} (h0:s x1 x2 x3=some r) {mi:Mem} {w0:World},CtrB Try.prog 20 [(.v (.pointer (some ⟨ch_0.1,0,none⟩))),(.agg [.b20 x2]),(.a4 x3)] (MS1 x1 ch_0) (fun (ch:W7)=>((.a4 r.1):D)) (fun (ch:W7)=>(MS1 (x1.1,r.e3,x1.e3,r.e5,r.e6,r.t6) (ch_0.1,ch_0.2.1,ch_0.e3,ch.1,ch.2.1,ch.e3,ch.e4,ch.e5,ch.e6,ch.e7,ch.e8,ch.e9,ch.e10,ch.e11,ch.e12,ch.t12))) mi w0
def fd7_.j1 (k:Nat)(x1:W2)(x2:List Int)(x3:List Int)(y1:Bool)(y2:W14)(y3:List L76)(y4:W15)(y5:W16)(y6:List L51)(y7:List Clo)(y8:List (List Int))(y9:List Int):Option W18:=if y1=true then (some (y9,((),(y2,y3,y4,y5),(),y6,y7,y8))) else ((fc8_.f k (x1.1,(y2,y3,y4,y5),x1.2.2.1,y6,y7,y8) x2 x3).bind fun t1=>(some (t1.1,((),t1.2.2.1,(),t1.2.2.2.2.1,t1.2.2.2.2.2.1,t1.2.2.2.2.2.2))))
def fd7_.f (k:Nat)(x1:W2)(x2:List Int)(x3:List Int):Option W18:=(fe4_.f k x1 x2).bind fun t2=>(if t2.1.isSome=true then (fd7_.j1 k x1 x2 x3 ((lk (aget (atE t2.2.2.1.2.2.1 ((atE t2.2.2.1.2.1 (t2.1.getD 0)).2.2.2.1)) x3) [0,0,0,0]).2) t2.2.2.1.1 t2.2.2.1.2.1 t2.2.2.1.2.2.1 t2.2.2.1.2.2.2 t2.2.2.2.2.1 t2.2.2.2.2.2.1 t2.2.2.2.2.2.2 ((lk (aget (atE t2.2.2.1.2.2.1 ((atE t2.2.2.1.2.1 (t2.1.getD 0)).2.2.2.1)) x3) [0,0,0,0]).1)) else none)
theorem fd7_.ok (k:Nat):fd7_.Ctr (fd7_.f k):=by
 intro x1 x2 x3 ch_0 r h0 mi w0 ok hm
 delta fd7_.f at h0
 refine c_enterZ (n:=29) ok hm func20 rfl rfl rfl fun b0 hb a S=>c_region (s_box S rfl rfl rfl fun g1 a w S=>s_box S rfl rfl rfl fun g2 a w S=>s_alloc S Z35 rfl ⟨rfl,tv⟩ rfl fun g3 a w S=>c_end (wp_seq (c_region (s_mv1 S rfl fun a S=>s_eqp S (b:=false) rfl rfl underlying26 rfl rfl fun a S=>c_end (c_condF S rfl rfl (wp_skip (x_thenN (wp_seq (wp_seq_k fun K1 hK1=>?_)))))))))
 have j1:∀ (m:Mem) (y1:Bool) (g5:Nat) (g6:Nat) (g7:Nat) (g8:Nat) (g9:Nat) (y2:List ((List Int)×Option Nat)) (G1:List Nat) (G2:List Nat) (G3:List Nat) (y3:List L76) (y4:List (List ((List Int)×(List Int)))) (y5:List (List ((List Int)×Bool))) (A1:Option Addr) (nn1:Nat) (cp1:Nat) (y6:List L51) (A2:Option Addr) (nn2:Nat) (cp2:Nat) (y7:List Clo) (A3:Option Addr) (nn3:Nat) (cp3:Nat) (y8:List (List Int)) (y9:List Int) (a:Act) (w:World),St 29 m b0 [(8,(.b y1)),(7,(.p g5)),(6,(.p g6)),(5,(.p g7)),(4,(.p g8)),(0,(.v (.pointer (some ⟨ch_0.1,0,none⟩))))] ([Res.cells g5 35 [.w4 y9]]++MS1 (x1.1,(y2,y3,y4,y5),x1.e3,y6,y7,y8) (ch_0.1,ch_0.2.1,ch_0.e3,g9,G1,G2,G3,A1,nn1,cp1,A2,nn2,cp2,A3,nn3,cp3)++[Res.cells g6 35 [.w4 [0,0,0,0]],Res.cells g7 35 [.w4 x3],Res.cells g8 31 [.b20 x2]]) a w→fd7_.j1 k x1 x2 x3 y1 y2 y3 y4 y5 y6 y7 y8 y9=some r→K1 a w:=by
  intro m y1 g5 g6 g7 g8 g9 y2 G1 G2 G3 y3 y4 y5 A1 nn1 cp1 y6 A2 nn2 cp2 y7 A3 nn3 cp3 y8 y9 a w S h0
  delta fd7_.j1 at h0
  refine hK1 a w (c_region (s_mv1 S rfl fun a S=>c_end ?_))
  rcases ite_of h0 with ⟨c1,h1⟩ | ⟨c1,h1⟩
  ·refine c_condT S rfl c1 (c_region (s_loada S rfl .h T35 (s':=[.w4 y9]) rfl rfl fun a S=>s_store S rfl rfl rfl (s':=[.w4 y9]) .h9 T35 rfl rfl fun w S=>c_end (wp_ret (x_thenR ?_))))
   obtain rfl:=sI h1
   exact b_ret1 (d:=(.a4 y9)) S rfl (resD_cell rfl .h9 T35 rfl rfl) fun ok=>S.retX (Hx:=[]) hb _ _ ((g9,G1,G2,G3,A1,nn1,cp1,A2,nn2,cp2,A3,nn3,cp3):W7) (.c1 (.c1 (.c1 (.c1 (.c1 (.c1 (.c1 (.c1 .n)))))))) ok
  ·refine c_condF S rfl c1 (wp_skip (x_thenN (c_region (s_mv1 S rfl fun a S=>s_loada S rfl .h11 T31 (s':=[.b20 x2]) rfl rfl fun a S=>s_loada S rfl .h10 T35 (s':=[.w4 x3]) rfl rfl fun a S=>bindX h1 fun t1 et1 h2=>s_callK S (fc8_.ok k (ch_0:=(ch_0.1,ch_0.2.1,ch_0.e3,g9,G1,G2,G3,A1,nn1,cp1,A2,nn2,cp2,A3,nn3,cp3)) et1) N39 rfl (.sk .pre) (fun _=> .c8) rfl fun ch1 m le1 a w S=>s_store S rfl rfl rfl (s':=[.w4 t1.1]) .h9 T35 rfl rfl fun w S=>c_end (wp_ret ?_)))))
   obtain rfl:=sI h2
   exact b_ret1 (d:=(.a4 t1.1)) S rfl (resD_cell rfl .h9 T35 rfl rfl) fun ok=>S.retX (Hx:=[]) hb _ _ (ch1:W7) (.c0 (.c0 (.c0 (.c0 (.c0 (.c0 (.c0 (.c0 .n)))))))) ok
 refine c_hS S (.take 0 (.take 1 (.take 6 (.alts (.run 2 true (.alts (.run 3 true (.take 4 (.alts (.run 5 true (.alts (.run 7 false (.pure 8 (.pure 9 (.pure 10 (.alts (.run 11 false (.alts (.run 12 false (.alts (.run 13 false .done .nil)) .nil)) .nil))))) (.run 11 true (.alts (.run 7 false (.pure 8 (.pure 9 (.pure 10 (.alts (.run 12 false (.alts (.run 13 false .done .nil)) .nil))))) .nil)) .nil))) (.run 11 true (.alts (.run 5 true (.alts (.run 7 false (.pure 8 (.pure 9 (.pure 10 (.alts (.run 12 false (.alts (.run 13 false .done .nil)) .nil))))) .nil)) .nil)) .nil)))) (.run 11 true (.alts (.run 3 true (.take 4 (.alts (.run 5 true (.alts (.run 7 false (.pure 8 (.pure 9 (.pure 10 (.alts (.run 12 false (.alts (.run 13 false .done .nil)) .nil))))) .nil)) .nil))) .nil)) .nil))) (.run 11 true (.alts (.run 2 true (.alts (.run 3 true (.take 4 (.alts (.run 5 true (.alts (.run 7 false (.pure 8 (.pure 9 (.pure 10 (.alts (.run 12 false (.alts (.run 13 false .done .nil)) .nil))))) .nil)) .nil))) .nil)) .nil)) .nil)))))) 7 (.c1 (.c1 .n)) ⟨Res.stay_cells,Res.stay_cells,tv⟩ [(5,(.p g2)),(4,(.p g1)),(0,(.v (.pointer (some ⟨ch_0.1,0,none⟩))))] rfl (by kernel_rfl) fun w S CL hw le=>?_
 refine h_mv1 S CL hw le rfl tv fun a S CL=>h_loada S CL hw le (subR rfl) rfl .h1 T31 (s':=[.b20 x2]) rfl rfl rfl tv fun a S CL=>h_loada S CL hw le (subR rfl) rfl .h T35 (s':=[.w4 x3]) rfl rfl rfl tv fun a S CL=>bindX h0 fun t2 et2 h1=>?_
 obtain ⟨c2,h2⟩:=chk_of h1; clear h1
 refine h_alts ?_
 refine h_runO S rfl tv ?_ ?_
 ·refine s_callK S (fe4_.ok k (ch_0:=ch_0) et2) N26 rfl (.sk (.sk (.sk .pre))) (fun _=> .c8) rfl fun ch2 m le1 a w S=>?_
  replace le:=le.trans le1
  refine CL.bk hw S (.c9 (.c9 .n)) le fun hw=>h_alts ?_
  refine h_runO S rfl tv ?_ ?_
  ·have hl2:=S.slotPlt (u:=15) c2 rfl
   replace S:=S.slotP (u:=15) c2 rfl
   refine s_nilchk S rfl rfl fun a S=>CL.bk hw S (.c9 (.c9 .n)) le fun hw=>?_
   replace CL:=CL.add (t:=16) (d:=(.v (.pointer (some ⟨(bAt ch2.2.1 (t2.1.getD 0)),0,none⟩)))) S rfl rfl
   refine h_fieldAddr S CL hw le (subR rfl) rfl I76_3 T73 (by decide) rfl rfl rfl tv fun a S CL=>h_alts ?_
   refine h_runO S rfl tv ?_ ?_
   ·replace S:=S.famOpen (i:=(t2.1.getD 0)) hl2 .h2
    have hS:=S.structOpen (T:=(YE76 ch2.e3 ch2.e4)) (fun _=> .h) (((),(),(),(none,0),(none,0)),((),(),(),(none,0),(none,0)),(),(),(),(),())
    clear S; obtain ⟨ch3,S⟩:=hS
    refine s_loadM S rfl .h T73 (v:=(.map (some (bAt ch2.e3 ((atE t2.e3.2.1 (t2.1.getD 0)).e4))))) rfl rfl fun a S=>?_
    replace S:=S.structClose (T:=(YE76 ch2.e3 ch2.e4)) (e:=atE t2.e3.2.1 (t2.1.getD 0)) (ch3:((YE76 ch2.e3 ch2.e4)).Ch) rfl .h
    replace S:=S.famShut hl2 .h .h2
    refine CL.bk hw S (.c9 (.c9 .n)) le fun hw=>h_alts ?_
    refine h_runO S rfl tv ?_ ?_
    ·have hm1:=S.slotLt (u:=18) rfl
     replace S:=S.slotMid (u:=18) rfl
     replace S:=S.famOpen (i:=((atE t2.e3.2.1 (t2.1.getD 0)).e4)) hm1 .h3
     refine s_lookO S (z:=[0,0,0,0]) (k:=x3) rfl .h () rfl (fun h=>⟨(),rfl,h⟩) underlying73 KT35 Z35 ⟨rfl,tv⟩ rfl fun ch4 a S=>?_
     replace S:=S.famShut hm1 .h .h3
     replace S:=S.slotMidB (u:=18) hm1 rfl
     refine h_back ⟨fun h=>(nomatch h),?_⟩
     refine p_move S rfl rfl rfl tv fun a S=>p_extract S rfl rfl rfl rfl rfl tv fun a S=>p_extract S rfl rfl rfl rfl rfl tv fun a S=>h_run' S rfl tv (s_alloc S Z35 rfl ⟨rfl,tv⟩ rfl fun g10 a w S=>?_)
     refine h_back ⟨fun h=>(nomatch h),?_⟩
     refine h_run' S rfl tv (s_storeJ S 0 rfl rfl rfl rfl .h T35 rfl rfl fun w S=>?_)
     refine h_back ⟨fun h=>(nomatch h),?_⟩
     refine h_run' S rfl tv (s_as1 S rfl fun a S=>?_)
     refine h_back ⟨fun h=>(nomatch h),?_⟩
     refine h_done ?_; clear CL hw le
     refine x_thenN ?_
     exact j1 _ ((lk (aget (atE t2.e3.e3 ((atE t2.e3.2.1 (t2.1.getD 0)).e4)) x3) [0,0,0,0]).2) g10 g3 g2 g1 ch2.1 t2.e3.1 ch2.2.1 ch2.e3 ch2.e4 t2.e3.2.1 t2.e3.e3 t2.e3.t3 ch2.e5 ch2.e6 ch2.e7 t2.e5 ch2.e8 ch2.e9 ch2.e10 t2.e6 ch2.e11 ch2.e12 ch2.t12 t2.t6 ((lk (aget (atE t2.e3.e3 ((atE t2.e3.2.1 (t2.1.getD 0)).e4)) x3) [0,0,0,0]).1) a w (S.sb rfl (.c0 (.c0 (.c0 (.c0 (.c0 (.c0 (.c0 (.c0 (.c0 (.c0 (.c0 (.c0 .n))))))))))))) h2
    refine h_runO S rfl tv ?_ ?_
    ·refine s_alloc S Z35 rfl ⟨rfl,tv⟩ rfl fun g10 a w S=>CL.bk hw S (.c10 (.c10 .n)) le fun hw=>h_run' S rfl tv ?_
     have hm1:=S.slotLt (u:=18) rfl
     replace S:=S.slotMid (u:=18) rfl
     replace S:=S.famOpen (i:=((atE t2.e3.2.1 (t2.1.getD 0)).e4)) hm1 .h4
     refine s_lookO S (z:=[0,0,0,0]) (k:=x3) rfl .h () rfl (fun h=>⟨(),rfl,h⟩) underlying73 KT35 Z35 ⟨rfl,tv⟩ rfl fun ch4 a S=>?_
     replace S:=S.famShut hm1 .h .h4
     replace S:=S.slotMidB (u:=18) hm1 rfl
     refine h_back ⟨fun h=>(nomatch h),?_⟩
     refine p_move S rfl rfl rfl tv fun a S=>p_extract S rfl rfl rfl rfl rfl tv fun a S=>p_extract S rfl rfl rfl rfl rfl tv fun a S=>h_run' S rfl tv (s_storeJ S 0 rfl rfl rfl rfl .h T35 rfl rfl fun w S=>?_)
     refine h_back ⟨fun h=>(nomatch h),?_⟩
     refine h_run' S rfl tv (s_as1 S rfl fun a S=>?_)
     refine h_back ⟨fun h=>(nomatch h),?_⟩
     refine h_done ?_; clear CL hw le
     refine x_thenN ?_
     exact j1 _ ((lk (aget (atE t2.e3.e3 ((atE t2.e3.2.1 (t2.1.getD 0)).e4)) x3) [0,0,0,0]).2) g10 g3 g2 g1 ch2.1 t2.e3.1 ch2.2.1 ch2.e3 ch2.e4 t2.e3.2.1 t2.e3.e3 t2.e3.t3 ch2.e5 ch2.e6 ch2.e7 t2.e5 ch2.e8 ch2.e9 ch2.e10 t2.e6 ch2.e11 ch2.e12 ch2.t12 t2.t6 ((lk (aget (atE t2.e3.e3 ((atE t2.e3.2.1 (t2.1.getD 0)).e4)) x3) [0,0,0,0]).1) a w (S.sb rfl (.c0 (.c0 (.c0 (.c0 (.c0 (.c0 (.c0 (.c0 (.c0 (.c0 (.c0 (.c0 .n))))))))))))) h2
    exact h_nil
   refine h_runO S rfl tv ?_ ?_
   ·refine s_alloc S Z35 rfl ⟨rfl,tv⟩ rfl fun g10 a w S=>CL.bk hw S (.c10 (.c10 .n)) le fun hw=>h_run' S rfl tv ?_
    replace S:=S.famOpen (i:=(t2.1.getD 0)) hl2 .h3
    have hS:=S.structOpen (T:=(YE76 ch2.e3 ch2.e4)) (fun _=> .h) (((),(),(),(none,0),(none,0)),((),(),(),(none,0),(none,0)),(),(),(),(),())
    clear S; obtain ⟨ch3,S⟩:=hS
    refine s_loadM S rfl .h T73 (v:=(.map (some (bAt ch2.e3 ((atE t2.e3.2.1 (t2.1.getD 0)).e4))))) rfl rfl fun a S=>?_
    replace S:=S.structClose (T:=(YE76 ch2.e3 ch2.e4)) (e:=atE t2.e3.2.1 (t2.1.getD 0)) (ch3:((YE76 ch2.e3 ch2.e4)).Ch) rfl .h
    replace S:=S.famShut hl2 .h .h3
    refine CL.bk hw S (.c10 (.c10 .n)) le fun hw=>h_run' S rfl tv ?_
    have hm1:=S.slotLt (u:=18) rfl
    replace S:=S.slotMid (u:=18) rfl
    replace S:=S.famOpen (i:=((atE t2.e3.2.1 (t2.1.getD 0)).e4)) hm1 .h4
    refine s_lookO S (z:=[0,0,0,0]) (k:=x3) rfl .h () rfl (fun h=>⟨(),rfl,h⟩) underlying73 KT35 Z35 ⟨rfl,tv⟩ rfl fun ch4 a S=>?_
    replace S:=S.famShut hm1 .h .h4
    replace S:=S.slotMidB (u:=18) hm1 rfl
    refine h_back ⟨fun h=>(nomatch h),?_⟩
    refine p_move S rfl rfl rfl tv fun a S=>p_extract S rfl rfl rfl rfl rfl tv fun a S=>p_extract S rfl rfl rfl rfl rfl tv fun a S=>h_run' S rfl tv (s_storeJ S 0 rfl rfl rfl rfl .h T35 rfl rfl fun w S=>?_)
    refine h_back ⟨fun h=>(nomatch h),?_⟩
    refine h_run' S rfl tv (s_as1 S rfl fun a S=>?_)
    refine h_back ⟨fun h=>(nomatch h),?_⟩
    refine h_done ?_; clear CL hw le
    refine x_thenN ?_
    exact j1 _ ((lk (aget (atE t2.e3.e3 ((atE t2.e3.2.1 (t2.1.getD 0)).e4)) x3) [0,0,0,0]).2) g10 g3 g2 g1 ch2.1 t2.e3.1 ch2.2.1 ch2.e3 ch2.e4 t2.e3.2.1 t2.e3.e3 t2.e3.t3 ch2.e5 ch2.e6 ch2.e7 t2.e5 ch2.e8 ch2.e9 ch2.e10 t2.e6 ch2.e11 ch2.e12 ch2.t12 t2.t6 ((lk (aget (atE t2.e3.e3 ((atE t2.e3.2.1 (t2.1.getD 0)).e4)) x3) [0,0,0,0]).1) a w (S.sb rfl (.c0 (.c0 (.c0 (.c0 (.c0 (.c0 (.c0 (.c0 (.c0 (.c0 (.c0 (.c0 .n))))))))))))) h2
   exact h_nil
  refine h_runO S rfl tv ?_ ?_
  ·refine s_alloc S Z35 rfl ⟨rfl,tv⟩ rfl fun g10 a w S=>CL.bk hw S (.c10 (.c10 .n)) le fun hw=>h_run' S rfl tv ?_
   have hl2:=S.slotPlt (u:=15) c2 rfl
   replace S:=S.slotP (u:=15) c2 rfl
   refine s_nilchk S rfl rfl fun a S=>CL.bk hw S (.c10 (.c10 .n)) le fun hw=>?_
   replace CL:=CL.add (t:=16) (d:=(.v (.pointer (some ⟨(bAt ch2.2.1 (t2.1.getD 0)),0,none⟩)))) S rfl rfl
   refine h_fieldAddr S CL hw le (subR rfl) rfl I76_3 T73 (by decide) rfl rfl rfl tv fun a S CL=>h_run' S rfl tv ?_
   replace S:=S.famOpen (i:=(t2.1.getD 0)) hl2 .h3
   have hS:=S.structOpen (T:=(YE76 ch2.e3 ch2.e4)) (fun _=> .h) (((),(),(),(none,0),(none,0)),((),(),(),(none,0),(none,0)),(),(),(),(),())
   clear S; obtain ⟨ch3,S⟩:=hS
   refine s_loadM S rfl .h T73 (v:=(.map (some (bAt ch2.e3 ((atE t2.e3.2.1 (t2.1.getD 0)).e4))))) rfl rfl fun a S=>?_
   replace S:=S.structClose (T:=(YE76 ch2.e3 ch2.e4)) (e:=atE t2.e3.2.1 (t2.1.getD 0)) (ch3:((YE76 ch2.e3 ch2.e4)).Ch) rfl .h
   replace S:=S.famShut hl2 .h .h3
   refine CL.bk hw S (.c10 (.c10 .n)) le fun hw=>h_run' S rfl tv ?_
   have hm1:=S.slotLt (u:=18) rfl
   replace S:=S.slotMid (u:=18) rfl
   replace S:=S.famOpen (i:=((atE t2.e3.2.1 (t2.1.getD 0)).e4)) hm1 .h4
   refine s_lookO S (z:=[0,0,0,0]) (k:=x3) rfl .h () rfl (fun h=>⟨(),rfl,h⟩) underlying73 KT35 Z35 ⟨rfl,tv⟩ rfl fun ch4 a S=>?_
   replace S:=S.famShut hm1 .h .h4
   replace S:=S.slotMidB (u:=18) hm1 rfl
   refine h_back ⟨fun h=>(nomatch h),?_⟩
   refine p_move S rfl rfl rfl tv fun a S=>p_extract S rfl rfl rfl rfl rfl tv fun a S=>p_extract S rfl rfl rfl rfl rfl tv fun a S=>h_run' S rfl tv (s_storeJ S 0 rfl rfl rfl rfl .h T35 rfl rfl fun w S=>?_)
   refine h_back ⟨fun h=>(nomatch h),?_⟩
   refine h_run' S rfl tv (s_as1 S rfl fun a S=>?_)
   refine h_back ⟨fun h=>(nomatch h),?_⟩
   refine h_done ?_; clear CL hw le
   refine x_thenN ?_
   exact j1 _ ((lk (aget (atE t2.e3.e3 ((atE t2.e3.2.1 (t2.1.getD 0)).e4)) x3) [0,0,0,0]).2) g10 g3 g2 g1 ch2.1 t2.e3.1 ch2.2.1 ch2.e3 ch2.e4 t2.e3.2.1 t2.e3.e3 t2.e3.t3 ch2.e5 ch2.e6 ch2.e7 t2.e5 ch2.e8 ch2.e9 ch2.e10 t2.e6 ch2.e11 ch2.e12 ch2.t12 t2.t6 ((lk (aget (atE t2.e3.e3 ((atE t2.e3.2.1 (t2.1.getD 0)).e4)) x3) [0,0,0,0]).1) a w (S.sb rfl (.c0 (.c0 (.c0 (.c0 (.c0 (.c0 (.c0 (.c0 (.c0 (.c0 (.c0 (.c0 .n))))))))))))) h2
  exact h_nil
 refine h_runO S rfl tv ?_ ?_
 ·refine s_alloc S Z35 rfl ⟨rfl,tv⟩ rfl fun g10 a w S=>CL.bk hw S (.c2 (.c2 .n)) le fun hw=>h_run' S rfl tv (s_callK S (fe4_.ok k (ch_0:=ch_0) et2) N26 rfl (.sk (.sk (.sk (.sk .pre)))) (fun _=> .c8) rfl fun ch2 m le1 a w S=>?_)
  replace le:=le.trans le1
  refine CL.bk hw S (.c10 (.c10 .n)) le fun hw=>h_run' S rfl tv ?_
  have hl2:=S.slotPlt (u:=15) c2 rfl
  replace S:=S.slotP (u:=15) c2 rfl
  refine s_nilchk S rfl rfl fun a S=>CL.bk hw S (.c10 (.c10 .n)) le fun hw=>?_
  replace CL:=CL.add (t:=16) (d:=(.v (.pointer (some ⟨(bAt ch2.2.1 (t2.1.getD 0)),0,none⟩)))) S rfl rfl
  refine h_fieldAddr S CL hw le (subR rfl) rfl I76_3 T73 (by decide) rfl rfl rfl tv fun a S CL=>h_run' S rfl tv ?_
  replace S:=S.famOpen (i:=(t2.1.getD 0)) hl2 .h2
  have hS:=S.structOpen (T:=(YE76 ch2.e3 ch2.e4)) (fun _=> .h) (((),(),(),(none,0),(none,0)),((),(),(),(none,0),(none,0)),(),(),(),(),())
  clear S; obtain ⟨ch3,S⟩:=hS
  refine s_loadM S rfl .h T73 (v:=(.map (some (bAt ch2.e3 ((atE t2.e3.2.1 (t2.1.getD 0)).e4))))) rfl rfl fun a S=>?_
  replace S:=S.structClose (T:=(YE76 ch2.e3 ch2.e4)) (e:=atE t2.e3.2.1 (t2.1.getD 0)) (ch3:((YE76 ch2.e3 ch2.e4)).Ch) rfl .h
  replace S:=S.famShut hl2 .h .h2
  refine CL.bk hw S (.c10 (.c10 .n)) le fun hw=>h_run' S rfl tv ?_
  have hm1:=S.slotLt (u:=18) rfl
  replace S:=S.slotMid (u:=18) rfl
  replace S:=S.famOpen (i:=((atE t2.e3.2.1 (t2.1.getD 0)).e4)) hm1 .h3
  refine s_lookO S (z:=[0,0,0,0]) (k:=x3) rfl .h () rfl (fun h=>⟨(),rfl,h⟩) underlying73 KT35 Z35 ⟨rfl,tv⟩ rfl fun ch4 a S=>?_
  replace S:=S.famShut hm1 .h .h3
  replace S:=S.slotMidB (u:=18) hm1 rfl
  refine h_back ⟨fun h=>(nomatch h),?_⟩
  refine p_move S rfl rfl rfl tv fun a S=>p_extract S rfl rfl rfl rfl rfl tv fun a S=>p_extract S rfl rfl rfl rfl rfl tv fun a S=>h_run' S rfl tv (s_storeJ S 0 rfl rfl rfl rfl .h8 T35 rfl rfl fun w S=>?_)
  refine h_back ⟨fun h=>(nomatch h),?_⟩
  refine h_run' S rfl tv (s_as1 S rfl fun a S=>?_)
  refine h_back ⟨fun h=>(nomatch h),?_⟩
  refine h_done ?_; clear CL hw le
  refine x_thenN ?_
  exact j1 _ ((lk (aget (atE t2.e3.e3 ((atE t2.e3.2.1 (t2.1.getD 0)).e4)) x3) [0,0,0,0]).2) g10 g3 g2 g1 ch2.1 t2.e3.1 ch2.2.1 ch2.e3 ch2.e4 t2.e3.2.1 t2.e3.e3 t2.e3.t3 ch2.e5 ch2.e6 ch2.e7 t2.e5 ch2.e8 ch2.e9 ch2.e10 t2.e6 ch2.e11 ch2.e12 ch2.t12 t2.t6 ((lk (aget (atE t2.e3.e3 ((atE t2.e3.2.1 (t2.1.getD 0)).e4)) x3) [0,0,0,0]).1) a w (S.sb rfl (.c8 (.c0 (.c0 (.c0 (.c0 (.c0 (.c0 (.c0 (.c0 (.c0 (.c0 (.c0 .n))))))))))))) h2
 exact h_nil
abbrev fd3_.Ty:Type:=Option Bool
def fd3_.Ctr (s:fd3_.Ty):Prop:=∀ {r:Bool} (h0:s=some r) {mi:Mem} {w0:World},CtrB Try.prog 6 [] [] (fun (ch:Unit)=>((.b r):D)) (fun (ch:Unit)=>[]) mi w0
def fd3_.f (k:Nat):Option Bool:=(fe3_.f).bind fun t1=>((fe1_.f k t1 [1,0,0,0,0,0,0,0,0,0,0,0,0,0,0,0,0,0,0,0] [1,0,0,0] [5,0,0,0]).bind fun t2=>((fd5_.f (t1.1,t2.2.1,t1.2.2.1,t2.2.2.2.1,t2.2.2.2.2.1,t2.2.2.2.2.2)).bind fun t3=>((fe1_.f k (t1.1,t2.2.1,t1.2.2.1,t2.2.2.2.1,t2.2.2.2.2.1,t2.2.2.2.2.2) [1,0,0,0,0,0,0,0,0,0,0,0,0,0,0,0,0,0,0,0] [1,0,0,0] [7,0,0,0]).bind fun t4=>((fd8_.f k (t1.1,t4.2.1,t1.2.2.1,t4.2.2.2.1,t4.2.2.2.2.1,t4.2.2.2.2.2) t3).bind fun t5=>((fd7_.f k t5 [1,0,0,0,0,0,0,0,0,0,0,0,0,0,0,0,0,0,0,0] [1,0,0,0]).bind fun t6=>(some (decide (t6.1=[5,0,0,0]))))))))
theorem fd3_.ok (k:Nat):fd3_.Ctr (fd3_.f k):=by
 intro r h0 mi w0 ok hm
 delta fd3_.f at h0
 refine c_enterZ (n:=27) ok hm func6 rfl rfl rfl fun b0 hb a S=>c_region (s_as1 S rfl fun a S=>c_end (c_region (bindX h0 fun t1 et1 h1=>s_callK S (fe3_.ok et1) N7 rfl .pre (fun _=> .c8) rfl fun ch1 m le1 a w S=>s_as1 S rfl fun a S=>c_end (wp_seq (c_region (s_mv1 S rfl fun a S=>s_eqp S (b:=false) rfl rfl underlying26 rfl rfl fun a S=>c_end (c_condF S rfl rfl (wp_skip (x_thenN (c_region (s_mv1 S rfl fun a S=>s_build S (ds:=[(0,(.v (.int .u8 1)))]) (dv:=(.agg [.b20 [1,0,0,0,0,0,0,0,0,0,0,0,0,0,0,0,0,0,0,0]])) rfl (fun _=>by kernel_rfl) ⟨rfl,tv⟩ rfl fun a S=>s_build S (ds:=[(0,(.w 1))]) (dv:=(.a4 [1,0,0,0])) rfl (fun _=>by kernel_rfl) ⟨rfl,tv⟩ rfl fun a S=>s_build S (ds:=[(0,(.w 5))]) (dv:=(.a4 [5,0,0,0])) rfl (fun _=>by kernel_rfl) ⟨rfl,tv⟩ rfl fun a S=>bindX h1 fun t2 et2 h2=>s_callK S (fe1_.ok k (ch_0:=ch1) et2) N15 rfl .pre (fun _=> .c8) rfl fun ch2 m le1 a w S=>c_end (c_region (s_mv1 S rfl fun a S=>bindX h2 fun t3 et3 h3=>s_callK S (fd5_.ok (ch_0:=(ch1.1,ch1.2.1,ch1.e3,ch2.1,ch2.2.1,ch2.e3,ch2.e4,ch2.e5,ch2.e6,ch2.e7,ch2.e8,ch2.e9,ch2.e10,ch2.e11,ch2.e12,ch2.t12)) et3) N24 rfl .pre (fun _=> .c8) rfl fun ch3 m le1 a w S=>s_as1 S rfl fun a S=>c_end (c_region (s_mv1 S rfl fun a S=>s_build S (ds:=[(0,(.v (.int .u8 1)))]) (dv:=(.agg [.b20 [1,0,0,0,0,0,0,0,0,0,0,0,0,0,0,0,0,0,0,0]])) rfl (fun _=>by kernel_rfl) ⟨rfl,tv⟩ rfl fun a S=>s_build S (ds:=[(0,(.w 1))]) (dv:=(.a4 [1,0,0,0])) rfl (fun _=>by kernel_rfl) ⟨rfl,tv⟩ rfl fun a S=>s_build S (ds:=[(0,(.w 7))]) (dv:=(.a4 [7,0,0,0])) rfl (fun _=>by kernel_rfl) ⟨rfl,tv⟩ rfl fun a S=>bindX h3 fun t4 et4 h4=>s_callK S (fe1_.ok k (ch_0:=(ch1.1,ch1.2.1,ch1.e3,ch2.1,ch2.2.1,ch2.e3,ch2.e4,ch2.e5,ch2.e6,ch2.e7,ch2.e8,ch2.e9,ch2.e10,ch2.e11,ch2.e12,ch2.t12)) et4) N15 rfl .pre (fun _=> .c8) rfl fun ch4 m le1 a w S=>c_end (c_region (s_mv2 S rfl fun a S=>bindX h4 fun t5 et5 h5=>s_callK S (fd8_.ok k (ch_0:=(ch1.1,ch1.2.1,ch1.e3,ch4.1,ch4.2.1,ch4.e3,ch4.e4,ch4.e5,ch4.e6,ch4.e7,ch4.e8,ch4.e9,ch4.e10,ch4.e11,ch4.e12,ch4.t12)) et5) N25 rfl .pre (fun _=> .c8) rfl fun ch5 m le1 a w S=>c_end (c_region (s_mv1 S rfl fun a S=>s_build S (ds:=[(0,(.v (.int .u8 1)))]) (dv:=(.agg [.b20 [1,0,0,0,0,0,0,0,0,0,0,0,0,0,0,0,0,0,0,0]])) rfl (fun _=>by kernel_rfl) ⟨rfl,tv⟩ rfl fun a S=>s_build S (ds:=[(0,(.w 1))]) (dv:=(.a4 [1,0,0,0])) rfl (fun _=>by kernel_rfl) ⟨rfl,tv⟩ rfl fun a S=>bindX h5 fun t6 et6 h6=>s_callK S (fd7_.ok k (ch_0:=(ch1.1,ch5.1,ch5.2.1,ch5.e3,ch5.e4,ch5.e5,ch5.e6,ch5.e7,ch5.e8,ch5.e9,ch5.e10,ch5.e11,ch5.e12,ch5.e13,ch5.e14,ch5.t14)) et6) N20 rfl .pre (fun _=> .c8) rfl fun ch6 m le1 a w S=>s_build S (ds:=[(0,(.w 5))]) (dv:=(.a4 [5,0,0,0])) rfl (fun _=>by kernel_rfl) ⟨rfl,tv⟩ rfl fun a S=>s_eqa S rfl rfl underlying35 underlying32 T32 Q35 rfl fun a S=>s_as1 S rfl fun a S=>c_end (wp_ret ?_))))))))))))))))))))
 obtain rfl:=sI h6
 exact b_ret1 (d:=(.b (decide (t6.1=[5,0,0,0])))) S rfl rfl (S.rt hb)
abbrev fa9_.Ty:Type:=(List Int)→Option (List Int)
def fa9_.Ctr (s:fa9_.Ty):Prop:=∀ {x1:List Int} {ch_0_0:Option Addr} {ch_0_1:Nat} {r:List Int} (h0:s x1=some r) {mi:Mem} {w0:World},CtrB Try.prog 27 [(.q yb ch_0_0 ch_0_1 x1)] [] (fun (ch:(Option Addr)×Nat×Nat)=>((.s ch.1 ch.2.1 ch.t2):D)) (fun (ch:(Option Addr)×Nat×Nat)=>[Res.row yb 5 ch.1 ch.2.1 ch.t2 r]) mi w0
def fa9_.f (x1:List Int):Option (List Int):=if ((([]:List Int)).length+(x1).length)*1≤140737488355328 then (some (([]:List Int)++x1)) else none
theorem fa9_.ok:fa9_.Ctr (fa9_.f):=by
 intro x1 ch_0_0 ch_0_1 r h0 mi w0 ok hm
 delta fa9_.f at h0
 refine c_enterZ (n:=8) ok hm func27 rfl rfl rfl fun b0 hb a S=>c_region (s_as1 S rfl fun a S=>c_end (wp_seq (c_region (s_mv1 S rfl fun a S=>s_eqnil S (b:=(ch_0_0).isNone) (d:=(.q yb ch_0_0 ch_0_1 x1)) rfl rfl underlying36 rfl rfl rfl fun a S=>c_end ?_))))
 cases hc:(ch_0_0).isNone
 ·refine c_condF S rfl hc (wp_skip (x_thenN (c_region (s_bldSl S (ty':=yb) (ds:=[]) (z:=0) (c0:=()) (ys:=([]:List Int)) (cs:=[]) rfl underlying36 J5 Z5 rfl ⟨rfl,tv⟩ rfl rfl rfl rfl rfl rfl fun g1 a w S=>s_mv1 S rfl fun a S=>?_))))
  obtain ⟨c1,h1⟩:=chk_of h0; clear h0
  refine s_app S (k2:=((x1).length)) (ys:=x1) rfl (fun _ _=> .h) rfl rfl rfl (RdS.src (S.get 6 (.q yb ch_0_0 ch_0_1 x1) rfl).2.2.2.1 (by decide) S.frz) underlying36 J5 c1 rfl fun A1 cp1 a w S=>s_as1 S rfl fun a S=>c_end (wp_ret ?_)
  obtain rfl:=sI h1
  exact b_ret1 (d:=(.s A1 (0+((x1).length)) cp1)) S rfl rfl fun ok=>S.retX (Hx:=[]) hb _ _ ((A1,0+((x1).length),cp1):(Option Addr)×Nat×Nat) (.c0 .n) ok
 ·have hxs:x1=[]:=rd_nil hc (S.get 3 (.q yb ch_0_0 ch_0_1 x1) rfl).2.2.2.1
  have h1:(some ([]:List Int))=some r:=by simpa [hxs] using h0
  clear h0
  refine c_condT S rfl hc (c_region (s_as1 S rfl fun a S=>c_end (wp_ret (x_thenR ?_))))
  replace S:=S.nilrow yb 5
  replace S:=S.slot (u:=2) (d':=(.s none 0 0)) rfl rfl (S.get 2 (.s none 0 0) rfl).2
  obtain rfl:=sI h1
  exact b_ret1 (d:=(.s none 0 0)) S rfl rfl fun ok=>S.retX (Hx:=[]) hb _ _ ((none,0,0):(Option Addr)×Nat×Nat) (.c0 .n) ok
end
end GW
