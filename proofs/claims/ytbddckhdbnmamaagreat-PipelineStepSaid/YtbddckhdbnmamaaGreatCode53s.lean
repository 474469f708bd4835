/-
  Light code of the functions of the seat YtbddckhdbnmamaaGreat, printed by a program of mine (conditions: none, definitions, and that they stand for the program's).
-/
import Derived.Test.YtbddckhdbnmamaaGreatProg
import Derived.Test.YtbddckhdbnmamaaGreatChks
namespace Go.Proofs.YtbddckhdbnmamaaGreat
open Go
set_option maxRecDepth 100000
set_option linter.unusedVariables false
def c3:LC:=(sr [0,1,2] [2,3,4] [oA 3 (.box 2) 0,oA 4 (.box 4) 1,mB 6 false] (.seq (sr [2,3,4] [2,3,4,20] [oA 15 (Lt 2) 3,oA 16 (pC 9) 15,mm 17 16,sO 20 17 [oA 18 (Lt 4) 4,oA 19 (pC 10) 18] (.t 19)] (cD 20 (sr [] [6] [oo 21 (pC 11) [],mm 6 21] .ret) .skip)) (sr [2,3,4] [2,3,4,7,8] [oA 23 (Lt 2) 3,oA 24 (Lt 4) 4,oB 25 (pC 12) 23 24,mm 22 25,oA 26 (.ext 0) 22,oA 27 (.ext 1) 22,mm 7 26,mm 8 27] (sr [2,3,4,7,8] [2,3,4,7,8,9,10] [oA 29 (Lt 2) 3,oA 30 (Lt 4) 4,oB 31 (pC 13) 29 30,mm 28 31,oA 32 (.ext 0) 28,oA 33 (.ext 1) 28,mm 9 32,mm 10 33] (sr [2,3,4,7,8,9,10] [2,3,4,7,8,9,10,11,12] [oA 35 (Lt 2) 3,oA 36 (Lt 4) 4,mm 37 2,oo 38 (pC 14) [.t 35,.t 36,.t 37],mm 34 38,oA 39 (.ext 0) 34,oA 40 (.ext 1) 34,oo 11 (.box 4) [.c (.agg [nL,nL,nL,(.bool false)])],sT 4 11 39,mm 12 40] (sr [2,3,4,7,8,9,10,11,12] [3,4,7,8,9,10,11,12,13,14] [oA 42 (Lt 2) 3,oA 43 (Lt 4) 4,mm 44 2,oo 45 (pC 15) [.t 42,.t 43,.t 44],mm 41 45,oA 46 (.ext 0) 41,oA 47 (.ext 1) 41,oo 13 (.box 4) [.c (.agg [nL,nL,nL,(.bool false)])],sT 4 13 46,mm 14 47] (st [3,4,7,8,9,10,11,12,13,14] [6] [oA 48 (Lt 2) 3,oA 49 (Lt 4) 4,oB 50 (pC 16) 48 49,oA 51 (Lt 2) 3,oA 52 (Lt 4) 4,oB 53 (pC 17) 51 52,oB 54 Be 50 53,mm 55 54,sA 59 55 [mm 56 7,mm 57 9,oB 58 (pC 18) 56 57] 58,mm 60 59,sA 64 60 [mm 61 8,mm 62 10,oB 63 Be 61 62] 63,mm 65 64,sA 69 65 [oA 66 (Lt 4) 11,oA 67 (Lt 4) 13,oB 68 (pC 19) 66 67] 68,mm 70 69,sA 74 70 [mm 71 12,mm 72 14,oB 73 Be 71 72] 73,mm 75 74,sA 77 75 [oo 76 (pC 11) []] 76,mm 6 77] .ret)))))))
def fi3:FI:=⟨3,78,c3,[.tmp 6]⟩
theorem ok3:zh Tryz.prog 3 fi3=true:=by kernel_rfl
def b9_0:LC:=(.seq (sr [1,3] [1,3,18] [mm 14 3,ff 15 0 1,ll 16 15,oA 17 Ln 16,oB 18 Bl 14 17] (cD 18 .skip (.exit 0))) (.seq (.block 1 [1,3] (sr [1,3] [1,3,46] [ff 21 0 1,ll 22 21,mm 23 3,oB 24 (iA 8) 22 23,oA 25 (Lt 8) 24,oA 26 (pC 35) 25,mm 27 26,sO 46 27 [ff 28 0 1,ll 29 28,mm 30 3,oB 31 (iA 8) 29 30,ff 32 7 31,ll 33 32,oA 34 Ln 33,oC 35 Bg 34 20,mm 36 35,sA 45 36 [ff 37 0 1,ll 38 37,mm 39 3,oB 40 (iA 8) 38 39,ff 41 7 40,ll 42 41,oA 43 Ln 42,oC 44 (.bin .leq) 43 200] 44] (.t 45)] (cD 46 (sr [] [2] [mB 2 true] .ret) .skip))) (.reg false [1,3] [1,3] [mm 19 3,oC 20 Ba 19 1,mm 3 20])))
def l9_0:LC:=b9_0
theorem ziR:ELq l9_0 b9_0:=fun _ _ _=>rfl
def c9:LC:=(sr [0] [1] [oA 1 (.box 2) 0,mB 2 false] (.seq (sr [1] [1,13] [ff 4 0 1,ll 5 4,oA 6 Ln 5,oC 7 Bg 6 18,mm 8 7,sO 13 8 [ff 9 1 1,ll 10 9,oA 11 Ln 10,oC 12 Bg 11 36] (.t 12)] (cD 13 (sr [] [2] [mB 2 true] .ret) .skip)) (.seq (sr [1] [1,3] [mK 3 0] (.block 0 [] (.loop [1,3] l9_0))) (sr [] [2] [mB 2 false] .ret))))
def fi9:FI:=⟨1,47,c9,[.tmp 2]⟩
theorem ok9:zh Tryz.prog 9 fi9=true:=by kernel_rfl
def zpE:LC:=(.seq (sr [1,5] [1,5,56] [mm 52 5,ff 53 2 1,ll 54 53,oA 55 Ln 54,oB 56 Bl 52 55] (cD 56 .skip (.exit 4))) (.seq (.block 5 [1,5] (sr [1,5] [1,5,65] [ff 59 2 1,ll 60 59,mm 61 5,oB 62 (iA 1) 60 61,ll 63 62,oA 64 Ln 63,oC 65 Bg 64 210] (cD 65 (sr [] [2] [mB 2 true] .ret) .skip))) (.reg false [1,5] [1,5] [mm 57 5,oC 58 Ba 57 1,mm 5 58])))
def zu0:LC:=zpE
theorem zkd:ELq zu0 zpE:=fun _ _ _=>rfl
def zpD:LC:=(.seq (sr [1,4] [1,4,41] [mm 37 4,ff 38 1 1,ll 39 38,oA 40 Ln 39,oB 41 Bl 37 40] (cD 41 .skip (.exit 2))) (.seq (.block 3 [1,4] (sr [1,4] [1,4,51] [ff 44 1 1,ll 45 44,mm 46 4,oB 47 (iA 6) 45 46,ff 48 4 47,ll 49 48,oA 50 Ln 49,oC 51 Bg 50 110] (cD 51 (sr [] [2] [mB 2 true] .ret) .skip))) (.reg false [1,4] [1,4] [mm 42 4,oC 43 Ba 42 1,mm 4 43])))
def zuZ:LC:=zpD
theorem zkc:ELq zuZ zpD:=fun _ _ _=>rfl
def zpC:LC:=(.seq (sr [1,3] [1,3,26] [mm 22 3,ff 23 0 1,ll 24 23,oA 25 Ln 24,oB 26 Bl 22 25] (cD 26 .skip (.exit 0))) (.seq (.block 1 [1,3] (sr [1,3] [1,3,36] [ff 29 0 1,ll 30 29,mm 31 3,oB 32 (iA 3) 30 31,ff 33 0 32,ll 34 33,oA 35 Ln 34,oC 36 Bg 35 110] (cD 36 (sr [] [2] [mB 2 true] .ret) .skip))) (.reg false [1,3] [1,3] [mm 27 3,oC 28 Ba 27 1,mm 3 28])))
def zuY:LC:=zpC
theorem zkb:ELq zuY zpC:=fun _ _ _=>rfl
def c10:LC:=(sr [0] [1] [oA 1 (.box 4) 0,mB 2 false] (.seq (sr [1] [1,21] [ff 6 0 1,ll 7 6,oA 8 Ln 7,oC 9 Bg 8 18,mm 10 9,sO 15 10 [ff 11 1 1,ll 12 11,oA 13 Ln 12,oC 14 Bg 13 36] (.t 14),mm 16 15,sO 21 16 [ff 17 2 1,ll 18 17,oA 19 Ln 18,oC 20 Bg 19 18] (.t 20)] (cD 21 (sr [] [2] [mB 2 true] .ret) .skip)) (.seq (sr [1] [1,3] [mK 3 0] (.block 0 [1] (.loop [1,3] zuY))) (.seq (sr [1] [1,4] [mK 4 0] (.block 2 [1] (.loop [1,4] zuZ))) (.seq (sr [1] [1,5] [mK 5 0] (.block 4 [] (.loop [1,5] zu0))) (sr [] [2] [mB 2 false] .ret))))))
def fi10:FI:=⟨1,66,c10,[.tmp 2]⟩
theorem ok10:zh Tryz.prog 10 fi10=true:=by kernel_rfl
def c11:LC:=(sr [] [] [mB 0 false] (sr [] [1] [oo 11 (.bsl true 1 4 iZ [0,1,2,3]) [kk 1,kk 2,kk 3,kk 4],oo 12 (.bld [iZ,iZ,iZ,iZ,(.str []),iZ,nL,nL] [(0,1),(7,1)]) [kk 1,.t 11],oo 13 (pC 36) [],oo 14 (.bld [iZ,iZ,iZ,iZ,(.str []),iZ,nL,nL] [(0,1),(2,5)]) [kk 3,.t 13],oo 15 (.bld [iZ,iZ,iZ,iZ,(.str []),iZ,nL,nL] [(0,1)]) [kk 10],oo 16 (.bsl true 8 3 (.agg [iZ,iZ,iZ,iZ,(.str []),iZ,nL,nL]) [0,1,2]) [.t 12,.t 14,.t 15],oo 17 (.bld [iZ,iZ,iZ,iZ,iZ] [(0,1),(2,1),(4,1)]) [kk 0,kk 1,kk 1],oo 18 (.bld [iZ,iZ,iZ,iZ,iZ] [(0,1),(2,1),(4,1)]) [kk 1,kk 2,kk 1],oo 19 (.bsl true 5 2 (.agg [iZ,iZ,iZ,iZ,iZ]) [0,1]) [.t 17,.t 18],oo 20 (.bld [nL,nL] [(0,1),(1,1)]) [.t 16,.t 19],oo 1 (.box 2) [.c (.agg [nL,nL])],sT 2 1 20] (sr [1] [1,2,3] [oA 22 (Lt 2) 1,oA 23 (pC 23) 22,mm 21 23,oA 24 (.ext 0) 21,oA 25 (.ext 1) 21,mm 2 24,mm 3 25] (sr [1,2,3] [1,2,3,4,5] [oA 27 (Lt 2) 1,oA 28 (pC 26) 27,mm 26 28,oA 29 (.ext 0) 26,oA 30 (.ext 1) 26,oo 4 (.box 4) [.c (.agg [nL,nL,nL,(.bool false)])],sT 4 4 29,mm 5 30] (sr [1,2,3,4,5] [1,2,3,4,5,6,7] [oA 32 (Lt 2) 1,oA 33 (Lt 4) 4,oB 34 (pC 12) 32 33,mm 31 34,oA 35 (.ext 0) 31,oA 36 (.ext 1) 31,mm 6 35,mm 7 36] (sr [1,2,3,4,5,6,7] [1,2,3,4,5,6,7,8] [oA 38 (Lt 2) 1,oA 39 (Lt 4) 4,oo 40 (pC 14) [.t 38,.t 39,kk 0],mm 37 40,oA 41 (.ext 0) 37,oA 42 (.ext 1) 37,sT 4 4 41,mm 8 42] (sr [1,2,3,4,5,6,7,8] [2,3,5,6,7,8,9,10] [oA 44 (Lt 2) 1,oA 45 (Lt 4) 4,oB 46 (pC 12) 44 45,mm 43 46,oA 47 (.ext 0) 43,oA 48 (.ext 1) 43,mm 9 47,mm 10 48] (sr [2,3,5,6,7,8,9,10] [0] [mm 49 3,oC 50 Be 49 0,mm 51 50,sA 54 51 [mm 52 5,oC 53 Be 52 0] 53,mm 55 54,sA 58 55 [mm 56 7,oC 57 Be 56 0] 57,mm 59 58,sA 62 59 [mm 60 8,oC 61 Be 60 0] 61,mm 63 62,sA 66 63 [mm 64 10,oC 65 Be 64 0] 65,mm 67 66,sA 71 67 [mm 68 2,oA 69 Ln 68,oC 70 Be 69 1] 70,mm 72 71,sA 78 72 [mm 73 2,oC 74 (iA 1) 73 0,ll 75 74,oo 76 (.bsl true 1 2 iZ [0,1]) [kk 2,kk 4],oB 77 (pC 18) 75 76] 77,mm 79 78,sA 83 79 [mm 80 6,oo 81 (.bsl true 1 1 iZ [0]) [kk 0],oB 82 (pC 18) 80 81] 82,mm 84 83,sA 88 84 [mm 85 9,oo 86 (.bsl true 1 1 iZ [0]) [kk 1],oB 87 (pC 18) 85 86] 87,mm 0 88] .ret))))))))
def fi11:FI:=⟨0,89,c11,[.tmp 0]⟩
theorem ok11:zh Tryz.prog 11 fi11=true:=by kernel_rfl
def zpB:LC:=(sr [2,3,7,19,20] [2,3,7,19,20,21] [oB 21 Bl 20 19] (.seq (cD 21 .skip (.exit 0)) (.seq (.block 1 [2,3,7,19,20] (sr [2,3,7,19,20] [2,3,7,8,19,20] [mm 22 20,mm 8 22] (sr [2,3,7,8,19,20] [2,3,7,8,10,19,20] [oA 24 (Lt 2) 2,oA 25 (Lt 4) 3,mm 26 8,oo 27 (pC 37) [.t 24,.t 25,.t 26],mm 23 27,oA 28 (.ext 0) 23,oA 29 (.ext 1) 23,oo 9 (.box 9) [.c (.agg [nL,iZ,(.bool false),nL,(.bool false),(.bool false),iZ,iZ,iZ])],sT 9 9 28,mm 10 29] (sr [2,3,7,8,10,19,20] [2,3,7,8,19,20,30] [mm 30 10] (cD 30 (.reg false [2,3,7,8,19,20] [2,3,7,19,20] [mm 31 7,mm 32 8,oo 33 (.bsl true 1 1 iZ [0]) [.t 32],oB 34 (.app 1) 31 33,mm 7 34]) .skip))))) (.reg false [2,3,7,19,20] [2,3,7,19,20] [oC 35 Ba 20 1,mm 20 35]))))
def zuX:LC:=zpB
theorem zka:ELq zuX zpB:=fun _ _ _=>rfl
def c12:LC:=(sr [0,1] [2,3] [oA 2 (.box 2) 0,oA 3 (.box 4) 1,oo 4 .mv [.c nL],mK 5 0] (.seq (sr [2,3] [2,3,6] [oA 11 (Lt 2) 2,oA 12 (Lt 4) 3,oB 13 (pC 16) 11 12,mm 6 13] (sr [2,3,6] [2,3,6,15] [mm 14 6,oC 15 Bn 14 0] (cD 15 (sr [6] [4,5] [mm 16 6,oo 4 .mv [.c nL],mm 5 16] .ret) .skip))) (sr [2,3] [2,3,7] [oo 7 .mv [.c nL]] (.seq (sr [2,3,7] [2,3,7,19,20] [ff 17 0 2,ll 18 17,oA 19 Ln 18,mK 20 0] (.block 0 [7] (.loop [2,3,7,19,20] zuX))) (sr [7] [4,5] [mm 36 7,mm 4 36,mK 5 0] .ret)))))
def fi12:FI:=⟨2,37,c12,[.tmp 4,.tmp 5]⟩
theorem ok12:zh Tryz.prog 12 fi12=true:=by kernel_rfl
def zpA:LC:=(.seq (sr [2,3,6,7] [2,3,6,7,18] [mm 14 7,ff 15 0 2,ll 16 15,oA 17 Ln 16,oB 18 Bl 14 17] (cD 18 .skip (.exit 0))) (.seq (.block 1 [2,3,6,7] (sr [2,3,6,7] [2,3,6,7,24] [oA 21 (Lt 2) 2,oA 22 (Lt 4) 3,mm 23 7,oo 24 (pC 38) [.t 21,.t 22,.t 23]] (cD 24 (.reg false [2,3,6,7] [2,3,6,7] [mm 25 6,mm 26 7,oo 27 (.bsl true 1 1 iZ [0]) [.t 26],oB 28 (.app 1) 25 27,mm 6 28]) .skip))) (.reg false [2,3,6,7] [2,3,6,7] [mm 19 7,oC 20 Ba 19 1,mm 7 20])))
def zuW:LC:=zpA
theorem zj9:ELq zuW zpA:=fun _ _ _=>rfl
def c13:LC:=(sr [0,1] [2,3] [oA 2 (.box 2) 0,oA 3 (.box 4) 1,oo 4 .mv [.c nL],mK 5 0] (sr [2,3] [2,3,6] [oo 8 (.bsl false 1 0 iZ []) [],mm 6 8] (.seq (sr [2,3,6] [2,3,6,12] [oA 9 (Lt 2) 2,oA 10 (Lt 4) 3,oB 11 (pC 17) 9 10,oC 12 Bn 11 0] (cD 12 (sr [6] [4,5] [mm 13 6,mm 4 13,mK 5 1] .ret) .skip)) (.seq (sr [2,3,6] [2,3,6,7] [mK 7 0] (.block 0 [6] (.loop [2,3,6,7] zuW))) (sr [6] [4,5] [mm 29 6,mm 4 29,mK 5 0] .ret)))))
def fi13:FI:=⟨2,30,c13,[.tmp 4,.tmp 5]⟩
theorem ok13:zh Tryz.prog 13 fi13=true:=by kernel_rfl
def c14:LC:=(sr [0,1,2] [2,3,4,6] [oA 3 (.box 2) 0,oA 4 (.box 4) 1,oo 6 (.box 4) [.c (.agg [nL,nL,nL,(.bool false)])],mK 7 0] (.seq (sr [2,3,4,6] [2,3,4,6,8] [oA 13 (Lt 2) 3,oA 14 (Lt 4) 4,oB 15 (pC 16) 13 14,mm 8 15] (sr [2,3,4,6,8] [2,3,4,6,8,17] [mm 16 8,oC 17 Bn 16 0] (cD 17 (sr [6,8] [6,7] [oo 18 (.bld [nL,nL,nL,(.bool false)] []) [],mm 19 8,sT 4 6 18,mm 7 19] .ret) .skip))) (.seq (sr [2,3,4,6] [2,3,4,6,26] [mm 20 2,ff 21 0 3,ll 22 21,oA 23 Ln 22,oC 24 (.bin .sub) 23 1,oo 25 (pC 39) [.t 20,kk 0,.t 24],oA 26 .not 25] (cD 26 (sr [6] [6,7] [oo 27 (.bld [nL,nL,nL,(.bool false)] []) [],sT 4 6 27,mK 7 2] .ret) .skip)) (sr [2,3,4,6] [2,3,4,6,9,10] [oA 29 (Lt 2) 3,oA 30 (Lt 4) 4,mm 31 2,oo 32 (pC 37) [.t 29,.t 30,.t 31],mm 28 32,oA 33 (.ext 0) 28,oA 34 (.ext 1) 28,oo 9 (.box 9) [.c (.agg [nL,iZ,(.bool false),nL,(.bool false),(.bool false),iZ,iZ,iZ])],sT 9 9 33,mm 10 34] (.seq (sr [2,3,4,6,9,10] [2,3,4,6,9,36] [mm 35 10,oA 36 .not 35] (cD 36 (sr [6] [6,7] [oo 37 (.bld [nL,nL,nL,(.bool false)] []) [],sT 4 6 37,mK 7 25] .ret) .skip)) (.seq (sr [2,3,4,6,9] [2,3,4,6,9,40] [ff 38 8 9,ll 39 38,oC 40 Bn 39 0] (cD 40 (st [6,9] [6,7] [oo 41 (.bld [nL,nL,nL,(.bool false)] []) [],ff 42 8 9,ll 43 42,.op none (.storeA 4) [.t 6,.t 41,.t 42],mm 7 43] .ret) .skip)) (st [2,3,4,6,9] [2,3,4,6,9] [ff 44 0 4,ll 45 44,oA 46 (.callA 40 1000) 45,ff 47 1 4,ll 48 47,oA 49 (.callA 41 1000) 48,ff 50 2 4,ll 51 50,oA 52 (.call 42) 51,ff 53 0 4,sT 1 53 46,ff 54 1 4,sT 1 54 49,ff 55 2 4,sT 1 55 52] (.seq (sr [2,3,4,6,9] [2,3,4,6,9,66] [ff 56 0 3,ll 57 56,mm 58 2,oB 59 (iA 8) 57 58,ff 60 0 59,ll 61 60,oC 62 Be 61 10,mm 63 62,sA 66 63 [ff 64 5 9,ll 65 64] 65] (cD 66 (sr [2,3,4,6,9] [2,3,4,6,9,11] [ff 67 0 3,ll 68 67,mm 69 2,oB 70 (.slc false false 8 false true) 68 69,oA 71 (pC 43) 70,mm 11 71] (.seq (sr [2,3,4,6,9,11] [2,3,4,6,9,11,78] [ff 72 2 4,ll 73 72,mm 74 11,oB 75 (iA 1) 73 74,ll 76 75,oA 77 Ln 76,oC 78 Be 77 200] (cD 78 (sr [6] [6,7] [oo 79 (.bld [nL,nL,nL,(.bool false)] []) [],sT 4 6 79,mK 7 4] .ret) .skip)) (.reg true [2,3,4,6,9,11] [2,3,4,6,9] [ff 80 2 4,ll 81 80,mm 82 11,ff 83 2 4,ll 84 83,mm 85 11,oB 86 (iA 1) 84 85,ll 87 86,oA 88 (.callA 44 1000) 87,ff 89 7 9,ll 90 89,oo 91 (.bsl true 1 1 iZ [0]) [.t 90],oo 92 (.appA 1) [.t 88,.t 91,.t 80],oB 93 (iA 1) 81 82,sT 1 93 92]))) .skip)) (.seq (sr [2,3,4,6,9] [2,3,4,6,9,12] [oA 94 (Lt 2) 3,mm 95 2,oA 96 (Lt 9) 9,oo 97 (.call 45) [.t 94,.t 4,.t 95,.t 96],mm 12 97] (sr [2,3,4,6,9,12] [2,3,4,6,9,12,99] [mm 98 12,oC 99 Bn 98 0] (cD 99 (sr [6,12] [6,7] [oo 100 (.bld [nL,nL,nL,(.bool false)] []) [],mm 101 12,sT 4 6 100,mm 7 101] .ret) .skip))) (sr [2,3,4,6,9] [2,3,4,6,9] [ff 102 0 4,ll 103 102,mm 104 2,ff 105 0 9,oA 106 (Lt 3) 105,oB 107 (iA 3) 103 104,sT 3 107 106] (sr [2,3,4,6,9] [4,6] [oA 108 (Lt 2) 3,mm 109 2,oA 110 (Lt 9) 9,oo 111 (.call 46) [.t 108,.t 4,.t 109,.t 110]] (sr [4,6] [6,7] [oA 112 (Lt 4) 4,sT 4 6 112,mK 7 0] .ret))))))))))))
def fi14:FI:=⟨3,113,c14,[.cell 6 true 4,.tmp 7]⟩
theorem ok14:zh Tryz.prog 14 fi14=true:=by kernel_rfl
def zsm:LC:=(.seq (sr [2,3,4,6,8,12,13,14] [2,3,4,6,8,12,13,14,146] [mm 139 14,ff 140 4 8,ll 141 140,mm 142 12,oB 143 (iA 1) 141 142,ll 144 143,oA 145 Ln 144,oB 146 Bl 139 145] (cD 146 .skip (.exit 2))) (.seq (.block 3 [2,3,4,6,8,12,13,14] (.reg true [2,3,4,6,8,12,13,14] [2,3,4,6,8,12,13,14] [ff 150 1 4,ll 151 150,mm 152 13,ff 153 1 4,ll 154 153,mm 155 13,oB 156 (iA 6) 154 155,oA 157 (Lt 6) 156,ff 158 4 8,ll 159 158,mm 160 12,oB 161 (iA 1) 159 160,ll 162 161,mm 163 14,oB 164 (iA 1) 162 163,ll 165 164,oB 166 (pC 51) 157 165,mm 149 166,oA 167 (.ext 0) 149,oA 168 (.ext 1) 149,oB 169 (iA 6) 151 152,sT 6 169 167])) (.reg false [2,3,4,6,8,12,13,14] [2,3,4,6,8,12,13,14] [mm 147 14,oC 148 Ba 147 1,mm 14 148])))
def zuV:LC:=zsm
theorem zoW:ELq zuV zsm:=fun _ _ _=>rfl
def zpz:LC:=(.seq (sr [2,3,4,6,8,12] [2,3,4,6,8,12,132] [mm 128 12,ff 129 4 8,ll 130 129,oA 131 Ln 130,oB 132 Bl 128 131] (cD 132 .skip (.exit 0))) (.seq (.block 1 [2,3,4,6,8,12] (sr [2,3,4,6,8,12] [2,3,4,6,8,12,13] [oA 135 (Lt 2) 3,mm 136 2,mm 137 12,oo 138 (pC 50) [.t 135,.t 136,.t 137],mm 13 138] (.seq (sr [2,3,4,6,8,12,13] [2,3,4,6,8,12,13,14] [mK 14 0] (.block 2 [2,3,4,6,8,12,13] (.loop [2,3,4,6,8,12,13,14] zuV))) (sr [2,3,4,6,8,12,13] [2,3,4,6,8,12,13,172] [ff 170 1 8,ff 171 2 170,ll 172 171] (cD 172 (.reg true [2,3,4,6,8,12,13] [2,3,4,6,8,12] [ff 174 1 4,ll 175 174,mm 176 13,ff 177 1 4,ll 178 177,mm 179 13,oB 180 (iA 6) 178 179,oA 181 (Lt 6) 180,oA 182 (pC 52) 181,mm 173 182,oA 183 (.ext 0) 173,oA 184 (.ext 1) 173,oB 185 (iA 6) 175 176,sT 6 185 183]) .skip))))) (.reg false [2,3,4,6,8,12] [2,3,4,6,8,12] [mm 133 12,oC 134 Ba 133 1,mm 12 134])))
def zuU:LC:=zpz
theorem zj8:ELq zuU zpz:=fun _ _ _=>rfl
def c15:LC:=(sr [0,1,2] [2,3,4,6] [oA 3 (.box 2) 0,oA 4 (.box 4) 1,oo 6 (.box 4) [.c (.agg [nL,nL,nL,(.bool false)])],mK 7 0] (.seq (sr [2,3,4,6] [2,3,4,6,18] [oA 15 (Lt 2) 3,oA 16 (Lt 4) 4,oB 17 (pC 17) 15 16,oC 18 Bn 17 0] (cD 18 (sr [6] [6,7] [oo 19 (.bld [nL,nL,nL,(.bool false)] []) [],sT 4 6 19,mK 7 1] .ret) .skip)) (.seq (sr [2,3,4,6] [2,3,4,6,28] [mm 20 2,oC 21 Bl 20 0,mm 22 21,sO 28 22 [mm 23 2,ff 24 0 3,ll 25 24,oA 26 Ln 25,oB 27 (.bin .geq) 23 26] (.t 27)] (cD 28 (sr [6] [6,7] [oo 29 (.bld [nL,nL,nL,(.bool false)] []) [],sT 4 6 29,mK 7 2] .ret) .skip)) (.seq (sr [2,3,4,6] [2,3,4,6,34] [oA 30 (Lt 2) 3,oA 31 (Lt 4) 4,mm 32 2,oo 33 (pC 38) [.t 30,.t 31,.t 32],oA 34 .not 33] (cD 34 (sr [6] [6,7] [oo 35 (.bld [nL,nL,nL,(.bool false)] []) [],sT 4 6 35,mK 7 25] .ret) .skip)) (sr [2,3,4,6] [2,3,4,6,8] [oA 36 (Lt 2) 3,oA 37 (Lt 4) 4,mm 38 2,oo 39 (pC 47) [.t 36,.t 37,.t 38],oo 8 (.box 8) [.c (.agg [iZ,nL,iZ,(.bool false),nL,iZ,iZ,iZ])],sT 8 8 39] (.seq (sr [2,3,4,6,8] [2,3,4,6,8,42] [ff 40 7 8,ll 41 40,oC 42 Bn 41 0] (cD 42 (st [6,8] [6,7] [oo 43 (.bld [nL,nL,nL,(.bool false)] []) [],ff 44 7 8,ll 45 44,.op none (.storeA 4) [.t 6,.t 43,.t 44],mm 7 45] .ret) .skip)) (sr [2,3,4,6,8] [2,3,4,6,8] [oo 46 (.bsl false 3 0 (.agg [nL,iZ,(.bool false)]) []) [],ff 47 0 4,ll 48 47,oB 49 (.app 3) 46 48,ff 50 0 4,sT 1 50 49] (sr [2,3,4,6,8] [2,3,4,6,8] [oo 51 (.bsl false 6 0 (.agg [iZ,iZ,iZ,iZ,nL,(.bool false)]) []) [],ff 52 1 4,ll 53 52,oB 54 (.app 6) 51 53,ff 55 1 4,sT 1 55 54] (sr [2,3,4,6,8] [2,3,4,6,8] [oo 56 (.bsl false 1 0 nL []) [],ff 57 2 4,ll 58 57,oB 59 (.app 1) 56 58,ff 60 2 4,sT 1 60 59] (sr [2,3,4,6,8] [2,3,4,6,8] [ff 61 0 4,ll 62 61,mm 63 2,ff 64 1 8,oA 65 (Lt 3) 64,oB 66 (iA 3) 62 63,sT 3 66 65] (.seq (sr [2,3,4,6,8] [2,3,4,6,8,78] [ff 67 0 8,ll 68 67,oC 69 Be 68 2,mm 70 69,sA 78 70 [ff 71 0 3,ll 72 71,mm 73 2,oB 74 (iA 8) 72 73,ff 75 0 74,ll 76 75,oC 77 Be 76 10] 77] (cD 78 (sr [2,3,4,6,8] [2,3,4,6,8,9] [oA 79 (Lt 2) 3,mm 80 2,oB 81 (pC 48) 79 80,mm 9 81] (.seq (sr [2,3,4,6,8,9] [2,3,4,6,8,9,88] [ff 82 2 4,ll 83 82,mm 84 9,oB 85 (iA 1) 83 84,ll 86 85,oA 87 Ln 86,oC 88 Be 87 200] (cD 88 (sr [6] [6,7] [oo 89 (.bld [nL,nL,nL,(.bool false)] []) [],sT 4 6 89,mK 7 4] .ret) .skip)) (.reg true [2,3,4,6,8,9] [2,3,4,6,8] [ff 90 2 4,ll 91 90,mm 92 9,oo 93 (.bsl false 1 0 iZ []) [],ff 94 2 4,ll 95 94,mm 96 9,oB 97 (iA 1) 95 96,ll 98 97,oo 99 (.appA 1) [.t 93,.t 98,.t 90],ff 100 6 8,ll 101 100,oo 102 (.bsl true 1 1 iZ [0]) [.t 101],oo 103 (.appA 1) [.t 99,.t 102,.t 90],oB 104 (iA 1) 91 92,sT 1 104 103]))) .skip)) (.seq (sr [2,3,4,6,8] [2,3,4,6,8,107] [ff 105 5 8,ll 106 105,oC 107 (.bin .geq) 106 0] (cD 107 (sr [2,3,4,6,8] [2,3,4,6,8,10,11] [ff 109 1 4,ll 110 109,ff 111 5 8,ll 112 111,oB 113 (iA 6) 110 112,oA 114 (Lt 6) 113,oA 115 (pC 49) 114,mm 108 115,oA 116 (.ext 0) 108,oA 117 (.ext 1) 108,oo 10 (.box 6) [.c (.agg [iZ,iZ,iZ,iZ,nL,(.bool false)])],sT 6 10 116,mm 11 117] (.seq (sr [2,3,4,6,8,10,11] [2,3,4,6,8,10,11,119] [mm 118 11,oC 119 Bn 118 0] (cD 119 (sr [6,11] [6,7] [oo 120 (.bld [nL,nL,nL,(.bool false)] []) [],mm 121 11,sT 4 6 120,mm 7 121] .ret) .skip)) (.reg false [2,3,4,6,8,10] [2,3,4,6,8] [ff 122 1 4,ll 123 122,ff 124 5 8,ll 125 124,oA 126 (Lt 6) 10,oB 127 (iA 6) 123 125,sT 6 127 126]))) .skip)) (.seq (sr [2,3,4,6,8] [2,3,4,6,8,12] [mK 12 0] (.block 0 [4,6] (.loop [2,3,4,6,8,12] zuU))) (sr [4,6] [6,7] [oA 186 (Lt 4) 4,sT 4 6 186,mK 7 0] .ret))))))))))))))
def fi15:FI:=⟨3,187,c15,[.cell 6 true 4,.tmp 7]⟩
theorem ok15:zh Tryz.prog 15 fi15=true:=by kernel_rfl
def c16:LC:=(sr [0,1] [2,3] [oA 2 (.box 2) 0,oA 3 (.box 4) 1,mK 4 0] (.seq (sr [2,3] [13] [oA 5 (Lt 2) 2,oA 6 (pC 24) 5,oC 7 Bn 6 0,mm 8 7,sO 13 8 [oA 9 (Lt 2) 2,oA 10 (Lt 4) 3,oB 11 (pC 53) 9 10,oA 12 .not 11] (.t 12)] (cD 13 (sr [] [4] [mK 4 1] .ret) .skip)) (sr [] [4] [mK 4 0] .ret)))
def fi16:FI:=⟨2,14,c16,[.tmp 4]⟩
theorem ok16:zh Tryz.prog 16 fi16=true:=by kernel_rfl
def zen:LC:=(.seq (sr [2,3,8] [2,3,8,65] [mm 61 8,ff 62 1 3,ll 63 62,oA 64 Ln 63,oB 65 Bl 61 64] (cD 65 .skip (.exit 2))) (.seq (.block 3 [2,3,8] (.seq (.hol [0] (.reg true [2,3,8] [2,3,8,9,10] [ff 68 1 3,ll 69 68,mm 70 8,oB 71 (iA 6) 69 70,oA 72 (Lt 6) 71,ff 73 1 2,ll 74 73,mm 75 8,oB 76 (iA 5) 74 75,oA 77 (Lt 5) 76,oo 9 (.boxH 0 6) [.c (.agg [iZ,iZ,iZ,iZ,nL,(.bool false)])],oo 10 (.box 5) [.c (.agg [iZ,iZ,iZ,iZ,iZ])],.op none (.storeA 6) [.t 9,.t 72,.t 73,.t 74,.t 76],sT 5 10 77])) (.seq (st [2,3,8,9,10] [2,3,8,9,10,114] [oA 78 (Lt 6) 9,oA 79 (pC 56) 78,oC 80 Bn 79 0,mm 81 80,sO 87 81 [ff 82 0 9,ll 83 82,ff 84 4 10,ll 85 84,oB 86 Bn 83 85] (.t 86),mm 88 87,sO 99 88 [ff 89 5 9,ll 90 89,ff 91 0 3,ll 92 91,ff 93 0 10,ll 94 93,oB 95 (iA 3) 92 94,ff 96 2 95,ll 97 96,oB 98 (.eqb true) 90 97] (.t 98),mm 100 99,sO 114 100 [ff 101 5 9,ll 102 101,oA 103 .not 102,mm 104 103,sA 113 104 [ff 105 1 9,ll 106 105,ff 107 3 9,ll 108 107,ff 109 0 9,ll 110 109,oB 111 Ba 108 110,oB 112 Bn 106 111] 112] (.t 113)] (cD 114 (sr [] [4] [mK 4 1] .ret) .skip)) (st [2,3,8,9,10] [2,3,8,134] [ff 115 0 2,ll 116 115,ff 117 2 10,ll 118 117,oB 119 (iA 8) 116 118,oA 120 (Lt 8) 119,ff 121 0 3,ll 122 121,ff 123 2 10,ll 124 123,oB 125 (iA 3) 122 124,oA 126 (Lt 3) 125,ff 127 3 10,ll 128 127,oo 129 (pC 57) [.t 120,.t 126,.t 128],mm 130 129,sA 134 130 [oA 131 (Lt 6) 9,oA 132 (pC 58) 131,oA 133 .not 132] 133] (cD 134 (sr [] [4] [mK 4 1] .ret) .skip))))) (.reg false [2,3,8] [2,3,8] [mm 66 8,oC 67 Ba 66 1,mm 8 67])))
def zqZ:LC:=zen
theorem zbP:ELq zqZ zen:=fun _ _ _=>rfl
def zpy:LC:=(.seq (sr [2,3,5] [2,3,5,42] [mm 38 5,ff 39 0 3,ll 40 39,oA 41 Ln 40,oB 42 Bl 38 41] (cD 42 .skip (.exit 0))) (.seq (.block 1 [2,3,5] (st [2,3,5] [2,3,5,7] [ff 46 0 2,ll 47 46,mm 48 5,oB 49 (iA 8) 47 48,oA 50 (Lt 8) 49,ff 51 0 3,ll 52 51,mm 53 5,oB 54 (iA 3) 52 53,oA 55 (Lt 3) 54,oB 56 (pC 55) 50 55,mm 45 56,oA 57 (.ext 0) 45,oA 58 (.ext 1) 45,mm 6 57,mm 7 58] (sr [2,3,5,7] [2,3,5,60] [mm 59 7,oC 60 Bn 59 0] (cD 60 (sr [] [4] [mK 4 1] .ret) .skip)))) (.reg false [2,3,5] [2,3,5] [mm 43 5,oC 44 Ba 43 1,mm 5 44])))
def zuT:LC:=zpy
theorem zj7:ELq zuT zpy:=fun _ _ _=>rfl
def c17:LC:=(sr [0,1] [2,3] [oA 2 (.box 2) 0,oA 3 (.box 4) 1,mK 4 0] (.seq (sr [2,3] [2,3,37] [oA 11 (Lt 2) 2,oA 12 (pC 20) 11,oC 13 Bn 12 0,mm 14 13,sO 22 14 [ff 15 0 3,ll 16 15,oA 17 Ln 16,ff 18 0 2,ll 19 18,oA 20 Ln 19,oB 21 Bn 17 20] (.t 21),mm 23 22,sO 31 23 [ff 24 1 3,ll 25 24,oA 26 Ln 25,ff 27 1 2,ll 28 27,oA 29 Ln 28,oB 30 Bn 26 29] (.t 30),mm 32 31,sO 37 32 [oA 33 (Lt 2) 2,oA 34 (Lt 4) 3,oB 35 (pC 54) 33 34,oA 36 .not 35] (.t 36)] (cD 37 (sr [] [4] [mK 4 1] .ret) .skip)) (.seq (sr [2,3] [2,3,5] [mK 5 0] (.block 0 [2,3] (.loop [2,3,5] zuT))) (.seq (sr [2,3] [2,3,8] [mK 8 0] (.block 2 [] (.loop [2,3,8] zqZ))) (sr [] [4] [mK 4 0] .ret)))))
def fi17:FI:=⟨2,135,c17,[.tmp 4]⟩
theorem ok17:zh Tryz.prog 17 fi17=true:=by kernel_rfl
def zsl:LC:=(sr [0,1,12,13] [0,1,12,13,14] [oB 14 Bl 13 12] (.seq (cD 14 .skip (.exit 0)) (.seq (.block 1 [0,1,12,13] (sr [0,1,12,13] [0,1,5,12,13] [mm 15 13,mm 5 15] (st [0,1,5,12,13] [0,1,12,13,24] [mm 16 0,mm 17 5,oB 18 (iA 1) 16 17,ll 19 18,mm 20 1,mm 21 5,oB 22 (iA 1) 20 21,ll 23 22,oB 24 Bn 19 23] (cD 24 (sr [] [4] [mB 4 false] .ret) .skip)))) (.reg false [0,1,12,13] [0,1,12,13] [oC 25 Ba 13 1,mm 13 25]))))
def zuS:LC:=zsl
theorem zoV:ELq zuS zsl:=fun _ _ _=>rfl
def c18:LC:=(sr [0,1] [0,1] [mB 4 false] (.seq (sr [0,1] [0,1,10] [mm 6 0,oA 7 Ln 6,mm 8 1,oA 9 Ln 8,oB 10 Bn 7 9] (cD 10 (sr [] [4] [mB 4 false] .ret) .skip)) (.seq (sr [0,1] [0,1,12,13] [mm 11 0,oA 12 Ln 11,mK 13 0] (.block 0 [] (.loop [0,1,12,13] zuS))) (sr [] [4] [mB 4 true] .ret))))
def fi18:FI:=⟨2,26,c18,[.tmp 4]⟩
theorem ok18:zh Tryz.prog 18 fi18=true:=by kernel_rfl
def zsk:LC:=(.seq (sr [2,3,6] [2,3,6,61] [mm 57 6,ff 58 1 2,ll 59 58,oA 60 Ln 59,oB 61 Bl 57 60] (cD 61 .skip (.exit 2))) (.seq (.block 3 [2,3,6] (st [2,3,6] [2,3,6,75] [ff 64 1 2,ll 65 64,mm 66 6,oB 67 (iA 6) 65 66,oA 68 (Lt 6) 67,ff 69 1 3,ll 70 69,mm 71 6,oB 72 (iA 6) 70 71,oA 73 (Lt 6) 72,oB 74 (pC 60) 68 73,oA 75 .not 74] (cD 75 (sr [] [4] [mB 4 false] .ret) .skip))) (.reg false [2,3,6] [2,3,6] [mm 62 6,oC 63 Ba 62 1,mm 6 63])))
def zuR:LC:=zsk
theorem zoU:ELq zuR zsk:=fun _ _ _=>rfl
def zsj:LC:=(.seq (sr [2,3,5] [2,3,5,42] [mm 38 5,ff 39 0 2,ll 40 39,oA 41 Ln 40,oB 42 Bl 38 41] (cD 42 .skip (.exit 0))) (.seq (.block 1 [2,3,5] (st [2,3,5] [2,3,5,56] [ff 45 0 2,ll 46 45,mm 47 5,oB 48 (iA 3) 46 47,oA 49 (Lt 3) 48,ff 50 0 3,ll 51 50,mm 52 5,oB 53 (iA 3) 51 52,oA 54 (Lt 3) 53,oB 55 (pC 59) 49 54,oA 56 .not 55] (cD 56 (sr [] [4] [mB 4 false] .ret) .skip))) (.reg false [2,3,5] [2,3,5] [mm 43 5,oC 44 Ba 43 1,mm 5 44])))
def zuQ:LC:=zsj
theorem zoT:ELq zuQ zsj:=fun _ _ _=>rfl
def c19:LC:=(sr [0,1] [2,3] [oA 2 (.box 4) 0,oA 3 (.box 4) 1,mB 4 false] (.seq (sr [2,3] [2,3,37] [ff 7 0 2,ll 8 7,oA 9 Ln 8,ff 10 0 3,ll 11 10,oA 12 Ln 11,oB 13 Bn 9 12,mm 14 13,sO 22 14 [ff 15 1 2,ll 16 15,oA 17 Ln 16,ff 18 1 3,ll 19 18,oA 20 Ln 19,oB 21 Bn 17 20] (.t 21),mm 23 22,sO 29 23 [ff 24 3 2,ll 25 24,ff 26 3 3,ll 27 26,oB 28 (.eqb true) 25 27] (.t 28),mm 30 29,sO 37 30 [ff 31 2 2,ll 32 31,ff 33 2 3,ll 34 33,oB 35 (pC 25) 32 34,oA 36 .not 35] (.t 36)] (cD 37 (sr [] [4] [mB 4 false] .ret) .skip)) (.seq (sr [2,3] [2,3,5] [mK 5 0] (.block 0 [2,3] (.loop [2,3,5] zuQ))) (.seq (sr [2,3] [2,3,6] [mK 6 0] (.block 2 [] (.loop [2,3,6] zuR))) (sr [] [4] [mB 4 true] .ret)))))
def fi19:FI:=⟨2,76,c19,[.tmp 4]⟩
theorem ok19:zh Tryz.prog 19 fi19=true:=by kernel_rfl
def zpx:LC:=(.seq (sr [1,7,9] [1,7,9,82] [mm 75 9,ff 76 0 1,ll 77 76,mm 78 7,oB 79 (iA 8) 77 78,oA 80 (Lt 8) 79,oA 81 (pC 64) 80,oB 82 Bl 75 81] (cD 82 .skip (.exit 8))) (.seq (.block 9 [1,7,9] (sr [1,7,9] [1,7,9,89] [oA 85 (Lt 2) 1,mm 86 7,mm 87 9,oo 88 (pC 65) [.t 85,.t 86,.t 87],oC 89 Bl 88 0] (cD 89 (sr [] [2] [mK 2 10] .ret) .skip))) (.reg false [1,7,9] [1,7,9] [mm 83 9,oC 84 Ba 83 1,mm 9 84])))
def zuP:LC:=zpx
theorem zj6:ELq zuP zpx:=fun _ _ _=>rfl
def zpw:LC:=(.seq (sr [1,7,8] [1,7,8,67] [mm 60 8,ff 61 0 1,ll 62 61,mm 63 7,oB 64 (iA 8) 62 63,oA 65 (Lt 8) 64,oA 66 (pC 63) 65,oB 67 Bl 60 66] (cD 67 .skip (.exit 6))) (.seq (.block 7 [1,7,8] (sr [1,7,8] [1,7,8,74] [oA 70 (Lt 2) 1,mm 71 7,mm 72 8,oo 73 (pC 50) [.t 70,.t 71,.t 72],oC 74 Bl 73 0] (cD 74 (sr [] [2] [mK 2 10] .ret) .skip))) (.reg false [1,7,8] [1,7,8] [mm 68 8,oC 69 Ba 68 1,mm 8 69])))
def zuO:LC:=zpw
theorem zj5:ELq zuO zpw:=fun _ _ _=>rfl
def zmo:LC:=(.seq (sr [1,7] [1,7,57] [mm 53 7,ff 54 0 1,ll 55 54,oA 56 Ln 55,oB 57 Bl 53 56] (cD 57 .skip (.exit 4))) (.seq (.block 5 [1,7] (.seq (sr [1,7] [1,7,8] [mK 8 0] (.block 6 [1,7] (.loop [1,7,8] zuO))) (sr [1,7] [1,7,9] [mK 9 0] (.block 8 [1,7] (.loop [1,7,9] zuP))))) (.reg false [1,7] [1,7] [mm 58 7,oC 59 Ba 58 1,mm 7 59])))
def zuN:LC:=zmo
theorem zhm:ELq zuN zmo:=fun _ _ _=>rfl
def zpv:LC:=(.seq (sr [1,5] [1,5,44] [mm 40 5,ff 41 1 1,ll 42 41,oA 43 Ln 42,oB 44 Bl 40 43] (cD 44 .skip (.exit 2))) (.seq (.block 3 [1,5] (sr [1,5] [1,5,6] [oA 47 (Lt 2) 1,mm 48 5,oB 49 (pC 62) 47 48,mm 6 49] (sr [1,5,6] [1,5,6,51] [mm 50 6,oC 51 Bn 50 0] (cD 51 (sr [6] [2] [mm 52 6,mm 2 52] .ret) .skip)))) (.reg false [1,5] [1,5] [mm 45 5,oC 46 Ba 45 1,mm 5 46])))
def zuM:LC:=zpv
theorem zj4:ELq zuM zpv:=fun _ _ _=>rfl
def zpu:LC:=(.seq (sr [1,3] [1,3,24] [mm 20 3,ff 21 0 1,ll 22 21,oA 23 Ln 22,oB 24 Bl 20 23] (cD 24 .skip (.exit 0))) (.seq (.block 1 [1,3] (sr [1,3] [1,3,4] [ff 27 0 1,ll 28 27,mm 29 3,oB 30 (iA 8) 28 29,oA 31 (Lt 8) 30,oA 32 (pC 61) 31,mm 4 32] (sr [1,3,4] [1,3,4,34] [mm 33 4,oC 34 Bn 33 0] (cD 34 (sr [4] [2] [mm 35 4,mm 2 35] .ret) .skip)))) (.reg false [1,3] [1,3] [mm 25 3,oC 26 Ba 25 1,mm 3 26])))
def zuL:LC:=zpu
theorem zj3:ELq zuL zpu:=fun _ _ _=>rfl
def c20:LC:=(sr [0] [1] [oA 1 (.box 2) 0,mK 2 0] (.seq (sr [1] [1,19] [ff 10 0 1,ll 11 10,oA 12 Ln 11,oC 13 Be 12 0,mm 14 13,sO 19 14 [ff 15 0 1,ll 16 15,oA 17 Ln 16,oC 18 Bg 17 16] (.t 18)] (cD 19 (sr [] [2] [mK 2 4] .ret) .skip)) (.seq (sr [1] [1,3] [mK 3 0] (.block 0 [1] (.loop [1,3] zuL))) (.seq (sr [1] [1,39] [ff 36 1 1,ll 37 36,oA 38 Ln 37,oC 39 Bg 38 32] (cD 39 (sr [] [2] [mK 2 4] .ret) .skip)) (.seq (sr [1] [1,5] [mK 5 0] (.block 2 [1] (.loop [1,5] zuM))) (.seq (sr [1] [1,7] [mK 7 0] (.block 4 [1] (.loop [1,7] zuN))) (.seq (sr [1] [91] [oA 90 (Lt 2) 1,oA 91 (pC 66) 90] (cD 91 (sr [] [2] [mK 2 21] .ret) .skip)) (sr [] [2] [mK 2 0] .ret))))))))
def fi20:FI:=⟨1,92,c20,[.tmp 2]⟩
theorem ok20:zh Tryz.prog 20 fi20=true:=by kernel_rfl
def zBd:LC:=(sr [6,15,101,102,103] [6,15,101,102,103,104] [oB 104 Bl 103 102] (.seq (cD 104 .skip (.exit 6)) (.seq (.block 7 [6,15,101,102,103] (sr [6,15,101,102,103] [6,15,16,17,101,102,103] [mm 105 103,oB 106 (iA 8) 101 103,oA 107 (Lt 8) 106,oo 17 (.box 8) [.c (.agg [iZ,iZ,iZ,iZ,(.str []),iZ,nL,nL])],mm 16 105,sT 8 17 107] (sr [6,15,16,17,101,102,103] [6,15,16,101,102,103,110] [ff 108 0 17,ll 109 108,oC 110 Be 109 10] (cD 110 (.reg false [6,15,16,101,102,103] [6,15,101,102,103] [mm 111 15,mm 112 6,mm 113 16,oB 114 (iA 1) 112 113,ll 115 114,oo 116 (.bsl true 1 1 nL [0]) [.t 115],oB 117 (.app 1) 111 116,mm 15 117]) .skip)))) (.reg false [6,15,101,102,103] [6,15,101,102,103] [oC 118 Ba 103 1,mm 103 118]))))
def zAQ:LC:=zBd
def zBc:LC:=(sr [1,5,6,8,9,32,33,34,71,72,73] [1,5,6,8,9,32,33,34,71,72,73,74] [oB 74 Bl 73 72] (.seq (cD 74 .skip (.exit 4)) (.seq (.block 5 [1,5,6,8,9,32,33,34,71,72,73] (sr [1,5,6,8,9,32,33,34,71,72,73] [1,5,6,8,9,13,14,32,33,34,71,72,73] [mm 75 73,oB 76 (iA 1) 71 73,ll 77 76,mm 13 75,mm 14 77] (.reg false [1,5,6,8,9,13,14,32,33,34,71,72,73] [1,5,6,8,9,32,33,34,71,72,73] [mm 78 5,oA 79 (Lt 2) 1,mm 80 8,mm 81 13,oo 82 (pC 71) [.t 79,.t 80,.t 81],mm 83 14,oB 84 (iA 1) 78 82,sT 1 84 83]))) (.reg false [1,5,6,8,9,32,33,34,71,72,73] [1,5,6,8,9,32,33,34,71,72,73] [oC 85 Ba 73 1,mm 73 85]))))
def zAP:LC:=zBc
def zBb:LC:=(sr [1,5,6,8,9,32,33,34,43,44] [1,5,6,8,9,32,33,34,43,44,45] [oB 45 Bl 44 43] (.seq (cD 45 .skip (.exit 2)) (.seq (.block 3 [1,5,6,8,9,32,33,34,43,44] (sr [1,5,6,8,9,32,33,34,43,44] [1,5,6,8,9,10,32,33,34,43,44] [mm 46 44,mm 10 46] (.reg false [1,5,6,8,9,10,32,33,34,43,44] [1,5,6,8,9,32,33,34,43,44] [mm 47 9,mm 48 5,oA 49 (Lt 2) 1,mm 50 8,mm 51 10,oo 52 (pC 69) [.t 49,.t 50,.t 51],oB 53 (iA 1) 48 52,ll 54 53,oo 55 (.bsl true 1 1 nL [0]) [.t 54],oB 56 (.app 1) 47 55,mm 9 56]))) (.reg false [1,5,6,8,9,32,33,34,43,44] [1,5,6,8,9,32,33,34,43,44] [oC 57 Ba 44 1,mm 44 57]))))
def zAO:LC:=zBb
def zBa:LC:=(sr [1,5,6,32,33,34] [1,5,6,32,33,34,35] [oB 35 Bl 34 33] (.seq (cD 35 .skip (.exit 0)) (.seq (.block 1 [1,5,6,32,33,34] (sr [1,5,6,32,33,34] [1,5,6,8,32,33,34] [oB 36 (iA 1) 32 34,ll 37 36,mm 8 37] (sr [1,5,6,8,32,33,34] [1,5,6,8,9,32,33,34] [oo 9 .mv [.c nL]] (.seq (sr [1,5,6,8,9,32,33,34] [1,5,6,8,9,32,33,34,43,44] [ff 38 0 1,ll 39 38,mm 40 8,oB 41 (iA 8) 39 40,oA 42 (Lt 8) 41,oA 43 (pC 68) 42,mK 44 0] (.block 2 [1,5,6,8,9,32,33,34] (.loop [1,5,6,8,9,32,33,34,43,44] zAO))) (sr [1,5,6,8,9,32,33,34] [1,5,6,8,9,11,12,32,33,34] [ff 59 0 1,ll 60 59,mm 61 8,oB 62 (iA 8) 60 61,oA 63 (Lt 8) 62,mm 64 9,oB 65 (.pubcall 70) 63 64,mm 58 65,oA 66 (.ext 0) 58,oA 67 (.ext 1) 58,mm 11 66,mm 12 67] (.seq (sr [1,5,6,8,9,11,12,32,33,34] [1,5,6,8,9,11,12,32,33,34,69] [mm 68 12,oC 69 Bn 68 0] (cD 69 .any .skip)) (.seq (sr [1,5,6,8,9,11,32,33,34] [1,5,6,8,9,32,33,34,71,72,73] [mm 71 11,oA 72 Ln 71,mK 73 0] (.block 4 [1,5,6,8,9,32,33,34] (.loop [1,5,6,8,9,32,33,34,71,72,73] zAP))) (sr [1,5,6,8,9,32,33,34] [1,5,6,8,9,32,33,34,92] [ff 86 0 1,ll 87 86,mm 88 8,oB 89 (iA 8) 87 88,ff 90 0 89,ll 91 90,oC 92 Be 91 10] (cD 92 (.reg false [1,5,6,8,9,32,33,34] [1,5,6,32,33,34] [mm 93 6,mm 94 8,mm 95 9,oC 96 (iA 1) 95 0,ll 97 96,oB 98 (iA 1) 93 94,sT 1 98 97]) .skip))))))))) (.reg false [1,5,6,32,33,34] [1,5,6,32,33,34] [oC 99 Ba 34 1,mm 34 99]))))
def zAN:LC:=zBa
def c23:LC:=(sr [0] [1] [oA 1 (.box 2) 0,oo 2 .mv [.c nL],mK 3 0] (.seq (sr [1] [1,4] [oA 18 (Lt 2) 1,oA 19 (pC 24) 18,mm 4 19] (sr [1,4] [1,4,21] [mm 20 4,oC 21 Bn 20 0] (cD 21 .any .skip))) (sr [1] [1,5] [ff 23 1 1,ll 24 23,oA 25 Ln 24,oo 26 (.mksl 1 nL) [.t 25,.t 25],mm 5 26] (sr [1,5] [1,5,6] [ff 27 0 1,ll 28 27,oA 29 Ln 28,oo 30 (.mksl 1 nL) [.t 29,.t 29],mm 6 30] (.seq (sr [1,5,6] [1,5,6,32,33,34] [oA 31 (Lt 2) 1,oA 32 (pC 67) 31,oA 33 Ln 32,mK 34 0] (.block 0 [1,6] (.loop [1,5,6,32,33,34] zAN))) (sr [1,6] [1,6,15] [oo 15 .mv [.c nL]] (.seq (sr [1,6,15] [6,15,101,102,103] [ff 100 0 1,ll 101 100,oA 102 Ln 101,mK 103 0] (.block 6 [15] (.loop [6,15,101,102,103] zAQ))) (sr [15] [2,3] [mm 119 15,mm 2 119,mK 3 0] .ret))))))))
def fi23:FI:=⟨1,120,c23,[.tmp 2,.tmp 3]⟩
theorem ok23:zh Tryz.prog 23 fi23=true:=by kernel_rfl
def zpt:LC:=(sr [1,3,40,41] [1,3,40,41,42] [oB 42 Bl 41 40] (.seq (cD 42 .skip (.exit 2)) (.seq (.block 3 [1,3,40,41] (sr [1,3,40,41] [1,3,7,40,41] [mm 43 41,mm 7 43] (sr [1,3,7,40,41] [1,3,8,40,41] [oA 44 (Lt 2) 1,mm 45 7,oB 46 (pC 74) 44 45,mm 8 46] (sr [1,3,8,40,41] [1,3,8,40,41,48] [mm 47 8,oC 48 Bn 47 0] (cD 48 (sr [8] [2] [mm 49 8,mm 2 49] .ret) .skip))))) (.reg false [1,3,40,41] [1,3,40,41] [oC 50 Ba 41 1,mm 41 50]))))
def zuK:LC:=zpt
theorem zj2:ELq zuK zpt:=fun _ _ _=>rfl
def zps:LC:=(sr [1,3,15,16,17] [1,3,15,16,17,18] [oB 18 Bl 17 16] (.seq (cD 18 .skip (.exit 0)) (.seq (.block 1 [1,3,15,16,17] (sr [1,3,15,16,17] [1,3,5,15,16,17] [oB 19 (iA 8) 15 17,oA 20 (Lt 8) 19,oo 5 (.box 8) [.c (.agg [iZ,iZ,iZ,iZ,(.str []),iZ,nL,nL])],sT 8 5 20] (.seq (sr [1,3,5,15,16,17] [1,3,5,6,15,16,17] [oA 21 (Lt 8) 5,oA 22 (pC 72) 21,mm 6 22] (sr [1,3,5,6,15,16,17] [1,3,5,6,15,16,17,24] [mm 23 6,oC 24 Bn 23 0] (cD 24 (sr [6] [2] [mm 25 6,mm 2 25] .ret) .skip))) (.reg true [1,3,5,15,16,17] [1,3,15,16,17] [mm 26 3,oA 27 (Lt 8) 5,oA 28 (pC 68) 27,oA 29 (Lt 8) 5,oA 30 (pC 73) 29,oB 31 Ba 28 30,oB 32 Ba 26 31,mm 3 32])))) (.reg false [1,3,15,16,17] [1,3,15,16,17] [oC 33 Ba 17 1,mm 17 33]))))
def zuJ:LC:=zps
theorem zj1:ELq zuJ zps:=fun _ _ _=>rfl
def c24:LC:=(sr [0] [1] [oA 1 (.box 2) 0,mK 2 0] (.seq (sr [1] [1,13] [ff 9 0 1,ll 10 9,oA 11 Ln 10,oo 12 (pC 39) [.t 11,kk 1,kk 16],oA 13 .not 12] (cD 13 (sr [] [2] [mK 2 4] .ret) .skip)) (sr [1] [1,3] [mK 3 0] (.seq (sr [1,3] [1,3,15,16,17] [ff 14 0 1,ll 15 14,oA 16 Ln 15,mK 17 0] (.block 0 [1,3] (.loop [1,3,15,16,17] zuJ))) (.seq (sr [1,3] [1,3,37] [ff 34 1 1,ll 35 34,oA 36 Ln 35,oC 37 Bg 36 32] (cD 37 (sr [] [2] [mK 2 4] .ret) .skip)) (.seq (sr [1,3] [1,3,40,41] [ff 38 1 1,ll 39 38,oA 40 Ln 39,mK 41 0] (.block 2 [1,3] (.loop [1,3,40,41] zuK))) (.seq (sr [1,3] [1,56] [mm 51 3,ff 52 1 1,ll 53 52,oA 54 Ln 53,oo 55 (.bin .mul) [kk 2,.t 54],oB 56 Bn 51 55] (cD 56 (sr [] [2] [mK 2 10] .ret) .skip)) (.seq (sr [1] [58] [oA 57 (Lt 2) 1,oA 58 (pC 75) 57] (cD 58 (sr [] [2] [mK 2 21] .ret) .skip)) (sr [] [2] [mK 2 0] .ret)))))))))
def fi24:FI:=⟨1,59,c24,[.tmp 2]⟩
theorem ok24:zh Tryz.prog 24 fi24=true:=by kernel_rfl
def zsi:LC:=(.seq (sr [0,1,5] [0,1,5,14] [mm 11 5,mm 12 0,oA 13 Ln 12,oB 14 Bl 11 13] (cD 14 .skip (.exit 0))) (.seq (.block 1 [0,1,5] (st [0,1,5] [0,1,5,26] [mm 17 0,mm 18 5,oB 19 (iA 1) 17 18,ll 20 19,mm 21 1,mm 22 5,oB 23 (iA 1) 21 22,ll 24 23,oB 25 (pC 76) 20 24,oA 26 .not 25] (cD 26 (sr [] [4] [mB 4 false] .ret) .skip))) (.reg false [0,1,5] [0,1,5] [mm 15 5,oC 16 Ba 15 1,mm 5 16])))
def zuI:LC:=zsi
theorem zoS:ELq zuI zsi:=fun _ _ _=>rfl
def c25:LC:=(sr [0,1] [0,1] [mB 4 false] (.seq (sr [0,1] [0,1,10] [mm 6 0,oA 7 Ln 6,mm 8 1,oA 9 Ln 8,oB 10 Bn 7 9] (cD 10 (sr [] [4] [mB 4 false] .ret) .skip)) (.seq (sr [0,1] [0,1,5] [mK 5 0] (.block 0 [] (.loop [0,1,5] zuI))) (sr [] [4] [mB 4 true] .ret))))
def fi25:FI:=⟨2,27,c25,[.tmp 4]⟩
theorem ok25:zh Tryz.prog 25 fi25=true:=by kernel_rfl
def zA9:LC:=(sr [2,5,26,27,28] [2,5,26,27,28,29] [oB 29 Bl 28 27] (.seq (cD 29 .skip (.exit 0)) (.seq (.block 1 [2,5,26,27,28] (sr [2,5,26,27,28] [2,5,7,26,27,28] [oB 30 (iA 5) 26 28,oA 31 (Lt 5) 30,oo 7 (.box 5) [.c (.agg [iZ,iZ,iZ,iZ,iZ])],sT 5 7 31] (sr [2,5,7,26,27,28] [2,5,7,8,26,27,28] [ff 33 4 7,ll 34 33,oA 35 (pC 77) 34,mm 32 35,oA 36 (.ext 0) 32,oA 37 (.ext 1) 32,oo 8 (.box 6) [.c (.agg [iZ,iZ,iZ,iZ,nL,(.bool false)])],sT 6 8 36,mm 9 37] (sr [2,5,7,8,26,27,28] [2,5,8,26,27,28] [oA 39 (Lt 6) 8,ff 40 4 7,ll 41 40,oB 42 (pC 78) 39 41,mm 38 42,oA 43 (.ext 0) 38,oA 44 (.ext 1) 38,sT 6 8 43] (.reg false [2,5,8,26,27,28] [2,5,26,27,28] [ff 45 1 5,ll 46 45,oA 47 (Lt 6) 8,oo 48 (.bsl true 6 1 (.agg [iZ,iZ,iZ,iZ,nL,(.bool false)]) [0]) [.t 47],oB 49 (.app 6) 46 48,ff 50 1 5,sT 1 50 49]))))) (.reg false [2,5,26,27,28] [2,5,26,27,28] [oC 51 Ba 28 1,mm 28 51]))))
def zAM:LC:=zA9
def c26:LC:=(sr [0] [1,2] [oA 1 (.box 2) 0,oo 2 (.box 4) [.c (.agg [nL,nL,nL,(.bool false)])],mK 3 0] (.seq (sr [1,2] [1,2,4] [oA 10 (Lt 2) 1,oA 11 (pC 24) 10,mm 4 11] (sr [1,2,4] [1,2,4,13] [mm 12 4,oC 13 Bn 12 0] (cD 13 .any .skip))) (.seq (.hol [0,1] (.reg true [1,2] [1,2,5] [ff 16 0 1,ll 17 16,oA 18 Ln 17,oo 19 (.mkslH 0 3 (.agg [nL,iZ,(.bool false)])) [.t 18,.t 18],ff 20 0 1,ll 21 20,oA 22 (pC 43) 21,oo 23 (.mkslH 1 1 nL) [.t 22,.t 22],oo 24 (.bld [nL,nL,nL,(.bool false)] [(0,1),(2,1)]) [.t 19,.t 23],oo 5 (.box 4) [.c (.agg [nL,nL,nL,(.bool false)])],sT 4 5 24])) (.seq (sr [1,2,5] [2,5,26,27,28] [ff 25 1 1,ll 26 25,oA 27 Ln 26,mK 28 0] (.block 0 [2,5] (.loop [2,5,26,27,28] zAM))) (sr [2,5] [2,3] [oA 52 (Lt 4) 5,sT 4 2 52,mK 3 0] .ret)))))
def fi26:FI:=⟨1,53,c26,[.cell 2 true 4,.tmp 3]⟩
theorem ok26:zh Tryz.prog 26 fi26=true:=by kernel_rfl
def c35:LC:=(sr [0] [1] [oA 1 (.box 8) 0,mB 2 false] (sr [1] [2] [ff 3 2 1,oA 4 (Lt 5) 3,oA 5 (pC 84) 4,mm 6 5,sO 17 6 [ff 7 7 1,ll 8 7,oA 9 Ln 8,oC 10 Bg 9 40,mm 11 10,sA 16 11 [ff 12 7 1,ll 13 12,oA 14 Ln 13,oC 15 (.bin .leq) 14 200] 15] (.t 16),mm 18 17,sO 23 18 [ff 19 7 1,ll 20 19,oA 21 Ln 20,oC 22 Bg 21 210] (.t 22),mm 2 23] .ret))
def fi35:FI:=⟨1,24,c35,[.tmp 2]⟩
theorem ok35:zh Tryz.prog 35 fi35=true:=by kernel_rfl
def c36:LC:=(sr [] [0] [oo 0 (.box 5) [.c (.agg [iZ,iZ,(.str []),iZ,nL])]] (sr [0] [0,1] [oo 3 (.bld [iZ,iZ,(.str []),iZ,nL] [(0,1),(2,1)]) [kk 2,.c (.str [120])],oo 1 (.box 5) [.c (.agg [iZ,iZ,(.str []),iZ,nL])],sT 5 1 3] (sr [0,1] [0,2] [oA 4 (Lt 5) 1,oo 5 (.bld [iZ,iZ,(.str []),iZ,nL] [(0,1),(3,1)]) [kk 1,kk 2],oo 6 (.bsl true 5 2 (.agg [iZ,iZ,(.str []),iZ,nL]) [0,1]) [.t 4,.t 5],oo 7 (.bld [iZ,iZ,(.str []),iZ,nL] [(0,1),(1,1),(4,1)]) [kk 4,kk 7,.t 6],oo 2 (.box 5) [.c (.agg [iZ,iZ,(.str []),iZ,nL])],sT 5 2 7] (sr [0,2] [0] [oA 8 (Lt 5) 2,oo 9 (.bld [iZ,iZ,(.str []),iZ,nL] [(0,1)]) [kk 1],oo 10 (.bsl true 5 2 (.agg [iZ,iZ,(.str []),iZ,nL]) [0,1]) [.t 8,.t 9],oo 11 (.bld [iZ,iZ,(.str []),iZ,nL] [(0,1),(1,1),(4,1)]) [kk 4,kk 8,.t 10],sT 5 0 11] .ret))))
def fi36:FI:=⟨0,12,c36,[.cell 0 true 5]⟩
theorem ok36:zh Tryz.prog 36 fi36=true:=by kernel_rfl
def c37:LC:=(sr [0,1,2] [2,3,4,6] [oA 3 (.box 2) 0,oA 4 (.box 4) 1,oo 6 (.box 9) [.c (.agg [nL,iZ,(.bool false),nL,(.bool false),(.bool false),iZ,iZ,iZ])],mB 7 false] (sr [2,3,4,6] [2,3,4,6,8,9] [oA 11 (Lt 2) 3,oA 12 (Lt 4) 4,mm 13 2,oo 14 (pC 85) [.t 11,.t 12,.t 13],mm 10 14,oA 15 (.ext 0) 10,oA 16 (.ext 1) 10,oo 8 (.box 9) [.c (.agg [nL,iZ,(.bool false),nL,(.bool false),(.bool false),iZ,iZ,iZ])],sT 9 8 15,mm 9 16] (st [2,3,4,6,8,9] [6,7] [oA 17 (Lt 9) 8,mm 18 9,mm 19 18,sA 30 19 [ff 20 8 8,ll 21 20,oC 22 Bn 21 0,mm 23 22,sO 29 23 [oA 24 (Lt 2) 3,oA 25 (Lt 4) 4,mm 26 2,oA 27 (Lt 9) 8,oo 28 (pC 86) [.t 24,.t 25,.t 26,.t 27]] (.t 28)] 29,sT 9 6 17,mm 7 30] .ret)))
def fi37:FI:=⟨3,31,c37,[.cell 6 true 9,.tmp 7]⟩
theorem ok37:zh Tryz.prog 37 fi37=true:=by kernel_rfl
def zpr:LC:=(.seq (sr [2,3,4,7,8] [2,3,4,7,8,23] [mm 19 8,ff 20 4 7,ll 21 20,oA 22 Ln 21,oB 23 Bl 19 22] (cD 23 .skip (.exit 0))) (.seq (.block 1 [2,3,4,7,8] (st [2,3,4,7,8] [2,3,4,7,8,41] [ff 26 4 7,ll 27 26,mm 28 8,oB 29 (iA 1) 27 28,ll 30 29,oA 31 Ln 30,ff 32 1 4,ll 33 32,oA 34 (Lt 2) 3,mm 35 2,mm 36 8,oo 37 (pC 50) [.t 34,.t 35,.t 36],oB 38 (iA 6) 33 37,oA 39 (Lt 6) 38,oA 40 (pC 87) 39,oB 41 Bg 31 40] (cD 41 (sr [] [6] [mB 6 false] .ret) .skip))) (.reg false [2,3,4,7,8] [2,3,4,7,8] [mm 24 8,oC 25 Ba 24 1,mm 8 25])))
def zuH:LC:=zpr
theorem zj0:ELq zuH zpr:=fun _ _ _=>rfl
def c38:LC:=(sr [0,1,2] [2,3,4] [oA 3 (.box 2) 0,oA 4 (.box 4) 1,mB 6 false] (sr [2,3,4] [2,3,4,7] [oA 9 (Lt 2) 3,oA 10 (Lt 4) 4,mm 11 2,oo 12 (pC 47) [.t 9,.t 10,.t 11],oo 7 (.box 8) [.c (.agg [iZ,nL,iZ,(.bool false),nL,iZ,iZ,iZ])],sT 8 7 12] (.seq (sr [2,3,4,7] [2,3,4,7,15] [ff 13 0 7,ll 14 13,oC 15 Be 14 0] (cD 15 (sr [] [6] [mB 6 false] .ret) .skip)) (.seq (sr [2,3,4,7] [2,3,4,7,18] [ff 16 7 7,ll 17 16,oC 18 Bn 17 0] (cD 18 (sr [] [6] [mB 6 true] .ret) .skip)) (.seq (sr [2,3,4,7] [2,3,4,7,8] [mK 8 0] (.block 0 [] (.loop [2,3,4,7,8] zuH))) (sr [] [6] [mB 6 true] .ret))))))
def fi38:FI:=⟨3,42,c38,[.tmp 6]⟩
theorem ok38:zh Tryz.prog 38 fi38=true:=by kernel_rfl
def c39:LC:=(sr [0,1,2] [0,1,2] [mB 6 false] (sr [0,1,2] [6] [mm 7 0,mm 8 1,oB 9 (.bin .geq) 7 8,mm 10 9,sA 14 10 [mm 11 0,mm 12 2,oB 13 (.bin .leq) 11 12] 13,mm 6 14] .ret))
def fi39:FI:=⟨3,15,c39,[.tmp 6]⟩
theorem ok39:zh Tryz.prog 39 fi39=true:=by kernel_rfl
def c40:LC:=(sr [0] [0] [oo 2 .mv [.c nL]] (.seq (sr [0] [0,4] [mm 3 0,oA 4 (.eqn false false) 3] (cD 4 (sr [] [2] [oo 2 .mv [.c nL]] .ret) .skip)) (sr [0] [2] [oo 5 (.bsl false 3 0 (.agg [nL,iZ,(.bool false)]) []) [],mm 6 0,oB 7 (.app 3) 5 6,mm 2 7] .ret)))
def fi40:FI:=⟨1,8,c40,[.tmp 2]⟩
theorem ok40:zh Tryz.prog 40 fi40=true:=by kernel_rfl
def c41:LC:=(sr [0] [0] [oo 2 .mv [.c nL]] (.seq (sr [0] [0,4] [mm 3 0,oA 4 (.eqn false false) 3] (cD 4 (sr [] [2] [oo 2 .mv [.c nL]] .ret) .skip)) (sr [0] [2] [oo 5 (.bsl false 6 0 (.agg [iZ,iZ,iZ,iZ,nL,(.bool false)]) []) [],mm 6 0,oB 7 (.app 6) 5 6,mm 2 7] .ret)))
def fi41:FI:=⟨1,8,c41,[.tmp 2]⟩
theorem ok41:zh Tryz.prog 41 fi41=true:=by kernel_rfl
def c42:LC:=(sr [0] [0] [oo 2 .mv [.c nL]] (.seq (sr [0] [0,4] [mm 3 0,oA 4 (.eqn false false) 3] (cD 4 (sr [] [2] [oo 2 .mv [.c nL]] .ret) .skip)) (sr [0] [2] [oo 5 (.bsl false 1 0 nL []) [],mm 6 0,oB 7 (.app 1) 5 6,mm 2 7] .ret)))
def fi42:FI:=⟨1,8,c42,[.tmp 2]⟩
theorem ok42:zh Tryz.prog 42 fi42=true:=by kernel_rfl
def zpq:LC:=(sr [3,6,7,8] [3,6,7,8,9] [oB 9 Bl 8 7] (.seq (cD 9 .skip (.exit 0)) (.seq (.block 1 [3,6,7,8] (sr [3,6,7,8] [3,5,6,7,8] [oB 10 (iA 8) 6 8,oA 11 (Lt 8) 10,oo 5 (.box 8) [.c (.agg [iZ,iZ,iZ,iZ,(.str []),iZ,nL,nL])],sT 8 5 11] (sr [3,5,6,7,8] [3,6,7,8,14] [ff 12 0 5,ll 13 12,oC 14 Be 13 10] (cD 14 (.reg false [3,6,7,8] [3,6,7,8] [mm 15 3,oC 16 Ba 15 1,mm 3 16]) .skip)))) (.reg false [3,6,7,8] [3,6,7,8] [oC 17 Ba 8 1,mm 8 17]))))
def zuG:LC:=zpq
theorem zjZ:ELq zuG zpq:=fun _ _ _=>rfl
def c43:LC:=(sr [0] [0] [mK 2 0] (sr [0] [0,3] [mK 3 0] (.seq (sr [0,3] [3,6,7,8] [mm 6 0,oA 7 Ln 6,mK 8 0] (.block 0 [3] (.loop [3,6,7,8] zuG))) (sr [3] [2] [mm 18 3,mm 2 18] .ret))))
def fi43:FI:=⟨1,19,c43,[.tmp 2]⟩
theorem ok43:zh Tryz.prog 43 fi43=true:=by kernel_rfl
def c44:LC:=(sr [0] [0] [oo 2 .mv [.c nL]] (.seq (sr [0] [0,4] [mm 3 0,oA 4 (.eqn false false) 3] (cD 4 (sr [] [2] [oo 2 .mv [.c nL]] .ret) .skip)) (sr [0] [2] [oo 5 (.bsl false 1 0 iZ []) [],mm 6 0,oB 7 (.app 1) 5 6,mm 2 7] .ret)))
def fi44:FI:=⟨1,8,c44,[.tmp 2]⟩
theorem ok44:zh Tryz.prog 44 fi44=true:=by kernel_rfl
def c45:LC:=(sr [0,1,2,3] [1,2,4,7] [oA 4 (.box 2) 0,oA 7 (.box 9) 3,mK 8 0] (.seq (sr [1,2,4,7] [1,2,4,7,15] [ff 13 5 7,ll 14 13,oA 15 .not 14] (cD 15 (sr [] [8] [mK 8 0] .ret) .skip)) (sr [1,2,4,7] [1,9] [oA 16 (Lt 2) 4,mm 17 2,ff 18 6 7,ll 19 18,oo 20 (pC 69) [.t 16,.t 17,.t 19],mm 9 20] (sr [1,9] [1,9,10,12] [mm 22 1,oA 23 .nilchk 22,ff 24 1 23,ll 25 24,mm 26 9,oB 27 (iA 6) 25 26,oA 28 (Lt 6) 27,oA 29 (pC 88) 28,mm 21 29,oA 30 (.ext 0) 21,oA 31 (.ext 1) 21,oA 32 (.ext 2) 21,oo 10 (.box 6) [.c (.agg [iZ,iZ,iZ,iZ,nL,(.bool false)])],sT 6 10 30,mm 11 31,mm 12 32] (.seq (sr [1,9,10,12] [1,9,10,12,39] [mm 33 12,oC 34 Be 33 0,mm 35 34,sA 39 35 [ff 36 5 10,ll 37 36,oA 38 .not 37] 38] (cD 39 (.reg false [1,9,10] [1,9,10,12] [oA 41 (Lt 6) 10,oC 42 (pC 78) 41 1,mm 40 42,oA 43 (.ext 0) 40,oA 44 (.ext 1) 40,sT 6 10 43,mm 12 44]) .skip)) (st [1,9,10,12] [12] [mm 45 1,oA 46 .nilchk 45,ff 47 1 46,ll 48 47,mm 49 9,oA 50 (Lt 6) 10,oB 51 (iA 6) 48 49,sT 6 51 50] (sr [12] [8] [mm 52 12,mm 8 52] .ret)))))))
def fi45:FI:=⟨4,53,c45,[.tmp 8]⟩
theorem ok45:zh Tryz.prog 45 fi45=true:=by kernel_rfl
def zsh:LC:=(sr [1,2,4,7,9,17,18,34,35,36] [1,2,4,7,9,17,18,34,35,36,37] [oB 37 Bl 36 35] (.seq (cD 37 .skip (.exit 2)) (.seq (.block 3 [1,2,4,7,9,17,18,34,35,36] (sr [1,2,4,7,9,17,18,34,35,36] [1,2,4,7,9,11,17,18,34,35,36] [oB 38 (iA 1) 34 36,ll 39 38,mm 11 39] (.reg true [1,2,4,7,9,11,17,18,34,35,36] [1,2,4,7,9,17,18,34,35,36] [mm 41 1,oA 42 .nilchk 41,ff 43 1 42,ll 44 43,mm 45 9,mm 46 1,oA 47 .nilchk 46,ff 48 1 47,ll 49 48,mm 50 9,oB 51 (iA 6) 49 50,oA 52 (Lt 6) 51,mm 53 11,oB 54 (pC 89) 52 53,mm 40 54,oA 55 (.ext 0) 40,oA 56 (.ext 1) 40,oB 57 (iA 6) 44 45,sT 6 57 55]))) (.reg false [1,2,4,7,9,17,18,34,35,36] [1,2,4,7,9,17,18,34,35,36] [oC 58 Ba 36 1,mm 36 58]))))
def zuF:LC:=zsh
theorem zoR:ELq zuF zsh:=fun _ _ _=>rfl
def zpp:LC:=(sr [1,2,4,7,17,18] [1,2,4,7,17,18,19] [oB 19 Bl 18 17] (.seq (cD 19 .skip (.exit 0)) (.seq (.block 1 [1,2,4,7,17,18] (sr [1,2,4,7,17,18] [1,2,4,7,8,17,18] [mm 20 18,mm 8 20] (sr [1,2,4,7,8,17,18] [1,2,4,7,8,9,17,18] [oA 21 (Lt 2) 4,mm 22 2,mm 23 8,oo 24 (pC 71) [.t 21,.t 22,.t 23],mm 9 24] (.seq (sr [1,2,4,7,8,9,17,18] [1,2,4,7,8,9,17,18,29] [mm 25 8,ff 26 3 7,ll 27 26,oA 28 Ln 27,oB 29 Bl 25 28] (cD 29 (sr [1,2,4,7,8,9,17,18] [1,2,4,7,9,17,18,34,35,36] [ff 30 3 7,ll 31 30,mm 32 8,oB 33 (iA 1) 31 32,ll 34 33,oA 35 Ln 34,mK 36 0] (.block 2 [1,2,4,7,9,17,18] (.loop [1,2,4,7,9,17,18,34,35,36] zuF))) .skip)) (sr [1,2,4,7,9,17,18] [1,2,4,7,9,17,18,60] [ff 59 4 7,ll 60 59] (cD 60 (.reg true [1,2,4,7,9,17,18] [1,2,4,7,17,18] [mm 62 1,oA 63 .nilchk 62,ff 64 1 63,ll 65 64,mm 66 9,mm 67 1,oA 68 .nilchk 67,ff 69 1 68,ll 70 69,mm 71 9,oB 72 (iA 6) 70 71,oA 73 (Lt 6) 72,oA 74 (pC 90) 73,mm 61 74,oA 75 (.ext 0) 61,oA 76 (.ext 1) 61,oB 77 (iA 6) 65 66,sT 6 77 75]) .skip)))))) (.reg false [1,2,4,7,17,18] [1,2,4,7,17,18] [oC 78 Ba 18 1,mm 18 78]))))
def zuE:LC:=zpp
theorem zjY:ELq zuE zpp:=fun _ _ _=>rfl
def c46:LC:=(sr [0,1,2,3] [1,2,4,7] [oA 4 (.box 2) 0,oA 7 (.box 9) 3] (sr [1,2,4,7] [1,2,4,7,17,18] [ff 12 0 4,ll 13 12,mm 14 2,oB 15 (iA 8) 13 14,oA 16 (Lt 8) 15,oA 17 (pC 73) 16,mK 18 0] (.block 0 [] (.loop [1,2,4,7,17,18] zuE))))
def fi46:FI:=⟨4,79,c46,[]⟩
theorem ok46:zh Tryz.prog 46 fi46=true:=by kernel_rfl
def c47:LC:=(sr [0,1,2] [2,3,4,6] [oA 3 (.box 2) 0,oA 4 (.box 4) 1,oo 6 (.box 8) [.c (.agg [iZ,nL,iZ,(.bool false),nL,iZ,iZ,iZ])]] (.seq (.hol [0] (.reg true [2,3,4,6] [2,3,4,6,7,8] [ff 27 0 3,ll 28 27,mm 29 2,oB 30 (iA 8) 28 29,oA 31 (Lt 8) 30,ff 32 0 4,ll 33 32,mm 34 2,oB 35 (iA 3) 33 34,oA 36 (Lt 3) 35,oo 7 (.boxH 0 8) [.c (.agg [iZ,iZ,iZ,iZ,(.str []),iZ,nL,nL])],oo 8 (.box 3) [.c (.agg [nL,iZ,(.bool false)])],.op none (.storeA 8) [.t 7,.t 31,.t 32,.t 33,.t 35],sT 3 8 36])) (.seq (sr [2,3,4,6,7,8] [2,3,4,6,7,8,38] [ff 37 2 8,ll 38 37] (cD 38 (sr [6] [6] [oo 39 (.bld [iZ,nL,iZ,(.bool false),nL,iZ,iZ,iZ] []) [],sT 8 6 39] .ret) .skip)) (.seq (sr [2,3,4,6,7,8] [2,3,4,6,7,8,42] [ff 40 0 7,ll 41 40,oC 42 Be 41 1] (cD 42 (.seq (sr [4,6,7,8] [6,7,8,53] [ff 43 3 4,ll 44 43,oA 45 .not 44,mm 46 45,sA 53 46 [ff 47 1 8,ll 48 47,ff 49 7 7,ll 50 49,oA 51 Ln 50,oB 52 Bl 48 51] 52] (cD 53 (sr [6,7,8] [6,9,10,11] [oA 55 (Lt 8) 7,oA 56 (Lt 3) 8,oo 57 (pC 91) [.t 55,.t 56,.c (.int .i64 (-1)),kk 0],mm 54 57,oA 58 (.ext 0) 54,oA 59 (.ext 1) 54,oA 60 (.ext 2) 54,oo 9 (.box 3) [.c (.agg [nL,iZ,(.bool false)])],sT 3 9 58,mm 10 59,mm 11 60] (sr [6,9,10,11] [6] [oA 61 (Lt 3) 9,mm 62 10,mm 63 11,oo 64 (.bld [iZ,nL,iZ,(.bool false),nL,iZ,iZ,iZ] [(0,1),(1,3),(4,1),(5,1),(7,1)]) [kk 1,.t 61,.t 62,.c (.int .i64 (-1)),.t 63],sT 8 6 64] .ret)) .skip)) (sr [6,7,8] [6,12,13,15] [oA 66 (Lt 8) 7,oA 67 (Lt 3) 8,oo 68 (pC 92) [.t 66,.t 67,.c (.int .i64 (-1))],mm 65 68,oA 69 (.ext 0) 65,oA 70 (.ext 1) 65,oA 71 (.ext 2) 65,oA 72 (.ext 3) 65,oo 12 (.box 3) [.c (.agg [nL,iZ,(.bool false)])],sT 3 12 69,mm 13 70,mm 14 71,mm 15 72] (sr [6,12,13,15] [6] [oA 73 (Lt 3) 12,mm 74 13,mm 75 15,oo 76 (.bld [iZ,nL,iZ,(.bool false),nL,iZ,iZ,iZ] [(0,1),(1,3),(4,1),(5,1),(7,1)]) [kk 3,.t 73,.t 74,.c (.int .i64 (-1)),.t 75],sT 8 6 76] .ret))) .skip)) (sr [2,3,4,6,7,8] [2,3,4,6,7,8,16] [oA 78 (Lt 8) 7,oA 79 (Lt 3) 8,oB 80 (pC 55) 78 79,mm 77 80,oA 81 (.ext 0) 77,oA 82 (.ext 1) 77,mm 16 81,mm 17 82] (st [2,3,4,6,7,8,16] [4,6,7,8,16,18] [oA 83 (Lt 2) 3,mm 84 2,mm 85 16,oC 86 (iA 1) 85 0,ll 87 86,oo 88 (pC 65) [.t 83,.t 84,.t 87],mm 18 88] (sr [4,6,7,8,16,18] [6,7,8,16,18,19] [ff 89 1 4,ll 90 89,mm 91 18,oB 92 (iA 6) 90 91,oA 93 (Lt 6) 92,oo 19 (.box 6) [.c (.agg [iZ,iZ,iZ,iZ,nL,(.bool false)])],sT 6 19 93] (.seq (sr [6,7,8,16,18,19] [6,7,8,16,18,19,97] [ff 94 4 19,ll 95 94,oA 96 Ln 95,oC 97 Bg 96 0] (cD 97 (st [6,7,8,16,18,19] [6,18,19,20,21,22] [oA 99 (Lt 8) 7,oA 100 (Lt 3) 8,mm 101 16,oC 102 (iA 1) 101 0,ll 103 102,ff 104 4 19,ll 105 104,oC 106 (iA 1) 105 0,ll 107 106,oo 108 (pC 91) [.t 99,.t 100,.t 103,.t 107],mm 98 108,oA 109 (.ext 0) 98,oA 110 (.ext 1) 98,oA 111 (.ext 2) 98,oo 20 (.box 3) [.c (.agg [nL,iZ,(.bool false)])],sT 3 20 109,mm 21 110,mm 22 111] (st [6,18,19,20,21,22] [6] [oA 112 (Lt 3) 20,mm 113 21,mm 114 18,ff 115 4 19,ll 116 115,oC 117 (iA 1) 116 0,ll 118 117,mm 119 22,oo 120 (.bld [iZ,nL,iZ,(.bool false),nL,iZ,iZ,iZ] [(0,1),(1,3),(4,1),(5,1),(6,1),(7,1)]) [kk 2,.t 112,.t 113,.t 114,.t 118,.t 119],sT 8 6 120] .ret)) .skip)) (.seq (sr [6,7,8,16,19] [6,7,8,16,122] [oA 121 (Lt 6) 19,oA 122 (pC 58) 121] (cD 122 (st [6,7,8,16] [6,23,24,26] [oA 124 (Lt 8) 7,oA 125 (Lt 3) 8,mm 126 16,oC 127 (iA 1) 126 0,ll 128 127,oo 129 (pC 92) [.t 124,.t 125,.t 128],mm 123 129,oA 130 (.ext 0) 123,oA 131 (.ext 1) 123,oA 132 (.ext 2) 123,oA 133 (.ext 3) 123,oo 23 (.box 3) [.c (.agg [nL,iZ,(.bool false)])],sT 3 23 130,mm 24 131,mm 25 132,mm 26 133] (sr [6,23,24,26] [6] [oA 134 (Lt 3) 23,mm 135 24,mm 136 26,oo 137 (.bld [iZ,nL,iZ,(.bool false),nL,iZ,iZ,iZ] [(0,1),(1,3),(4,1),(5,1),(7,1)]) [kk 3,.t 134,.t 135,.c (.int .i64 (-1)),.t 136],sT 8 6 137] .ret)) .skip)) (sr [6] [6] [oo 138 (.bld [iZ,nL,iZ,(.bool false),nL,iZ,iZ,iZ] []) [],sT 8 6 138] .ret))))))))))
def fi47:FI:=⟨3,139,c47,[.cell 6 true 8]⟩
theorem ok47:zh Tryz.prog 47 fi47=true:=by kernel_rfl
def zpo:LC:=(.seq (sr [1,2,5,6] [1,2,5,6,9] [mm 7 6,mm 8 1,oB 9 Bl 7 8] (cD 9 .skip (.exit 0))) (.seq (.block 1 [1,2,5,6] (sr [1,2,5,6] [1,2,5,6,18] [ff 12 0 2,ll 13 12,mm 14 6,oB 15 (iA 8) 13 14,ff 16 0 15,ll 17 16,oC 18 Be 17 10] (cD 18 (.reg false [1,2,5,6] [1,2,5,6] [mm 19 5,oC 20 Ba 19 1,mm 5 20]) .skip))) (.reg false [1,2,5,6] [1,2,5,6] [mm 10 6,oC 11 Ba 10 1,mm 6 11])))
def zuD:LC:=zpo
theorem zjX:ELq zuD zpo:=fun _ _ _=>rfl
def c48:LC:=(sr [0,1] [1,2] [oA 2 (.box 2) 0,mK 4 0] (sr [1,2] [1,2,5] [mK 5 0] (.seq (sr [1,2,5] [1,2,5,6] [mK 6 0] (.block 0 [5] (.loop [1,2,5,6] zuD))) (sr [5] [4] [mm 21 5,mm 4 21] .ret))))
def fi48:FI:=⟨2,22,c48,[.tmp 4]⟩
theorem ok48:zh Tryz.prog 48 fi48=true:=by kernel_rfl
def c49:LC:=(sr [0] [1,2] [oA 1 (.box 6) 0,oo 2 (.box 6) [.c (.agg [iZ,iZ,iZ,iZ,nL,(.bool false)])],mK 3 0] (sr [1,2] [1,2] [oA 6 (Lt 6) 1,oA 7 (pC 93) 6,mm 5 7,oA 8 (.ext 0) 5,oA 9 (.ext 1) 5,oA 10 (.ext 2) 5,sT 6 1 8] (.seq (sr [1,2] [1,2,12] [ff 11 5 1,ll 12 11] (cD 12 (sr [1,2] [2,3] [oA 13 (Lt 6) 1,sT 6 2 13,mK 3 0] .ret) .skip)) (sr [1,2] [1,2,4] [oA 15 (Lt 6) 1,oC 16 (pC 83) 15 1,mm 14 16,oA 17 (.ext 0) 14,oA 18 (.ext 1) 14,sT 6 1 17,mm 4 18] (sr [1,2,4] [2,3] [oA 19 (Lt 6) 1,mm 20 4,sT 6 2 19,mm 3 20] .ret)))))
def fi49:FI:=⟨1,21,c49,[.cell 2 true 6,.tmp 3]⟩
theorem ok49:zh Tryz.prog 49 fi49=true:=by kernel_rfl
def zmn:LC:=(.seq (sr [1,2,3,7] [1,2,3,7,12] [mm 8 7,ff 9 1 3,ll 10 9,oA 11 Ln 10,oB 12 Bl 8 11] (cD 12 .skip (.exit 0))) (.seq (.block 1 [1,2,3,7] (sr [1,2,3,7] [1,2,3,7,32] [ff 15 1 3,ll 16 15,mm 17 7,oB 18 (iA 5) 16 17,ff 19 0 18,ll 20 19,mm 21 1,oB 22 Be 20 21,mm 23 22,sA 32 23 [ff 24 1 3,ll 25 24,mm 26 7,oB 27 (iA 5) 25 26,ff 28 1 27,ll 29 28,mm 30 2,oB 31 Be 29 30] 31] (cD 32 (sr [7] [6] [mm 33 7,mm 6 33] .ret) .skip))) (.reg false [1,2,3,7] [1,2,3,7] [mm 13 7,oC 14 Ba 13 1,mm 7 14])))
def zuC:LC:=zmn
theorem zhj:ELq zuC zmn:=fun _ _ _=>rfl
def c50:LC:=(sr [0,1,2] [1,2,3] [oA 3 (.box 2) 0,mK 6 0] (.seq (sr [1,2,3] [1,2,3,7] [mK 7 0] (.block 0 [] (.loop [1,2,3,7] zuC))) (sr [] [6] [oo 6 .mv [.c (.int .i64 (-1))]] .ret)))
def fi50:FI:=⟨3,34,c50,[.tmp 6]⟩
theorem ok50:zh Tryz.prog 50 fi50=true:=by kernel_rfl
def c51:LC:=(sr [0,1] [1,2,4] [oA 2 (.box 6) 0,oo 4 (.box 6) [.c (.agg [iZ,iZ,iZ,iZ,nL,(.bool false)])],mK 5 0] (.seq (sr [1,2,4] [1,2,4,6] [oA 7 (Lt 6) 2,oA 8 (pC 56) 7,mm 6 8] (sr [1,2,4,6] [1,2,4,6,10] [mm 9 6,oC 10 Bn 9 0] (cD 10 (sr [4,6] [4,5] [oo 11 (.bld [iZ,iZ,iZ,iZ,nL,(.bool false)] []) [],mm 12 6,sT 6 4 11,mm 5 12] .ret) .skip))) (.seq (sr [1,2,4] [1,2,4,15] [mm 13 1,oA 14 (pC 94) 13,oA 15 .not 14] (cD 15 (sr [4] [4,5] [oo 16 (.bld [iZ,iZ,iZ,iZ,nL,(.bool false)] []) [],sT 6 4 16,mK 5 2] .ret) .skip)) (.seq (sr [1,2,4] [1,2,4,18] [ff 17 5 2,ll 18 17] (cD 18 (sr [4] [4,5] [oo 19 (.bld [iZ,iZ,iZ,iZ,nL,(.bool false)] []) [],sT 6 4 19,mK 5 19] .ret) .skip)) (.seq (sr [1,2,4] [1,2,4,24] [ff 20 2 2,ll 21 20,ff 22 1 2,ll 23 22,oB 24 Be 21 23] (cD 24 (sr [4] [4,5] [oo 25 (.bld [iZ,iZ,iZ,iZ,nL,(.bool false)] []) [],sT 6 4 25,mK 5 18] .ret) .skip)) (sr [1,2,4] [2,4] [oo 26 (.bsl false 1 0 iZ []) [],ff 27 4 2,ll 28 27,oB 29 (.app 1) 26 28,mm 30 1,oo 31 (.bsl true 1 1 iZ [0]) [.t 30],oB 32 (.app 1) 29 31,ff 33 4 2,sT 1 33 32] (sr [2,4] [2,4] [ff 34 2 2,ll 35 34,oC 36 Ba 35 1,ff 37 2 2,sT 1 37 36] (sr [2,4] [4,5] [oA 38 (Lt 6) 2,sT 6 4 38,mK 5 0] .ret))))))))
def fi51:FI:=⟨2,39,c51,[.cell 4 true 6,.tmp 5]⟩
theorem ok51:zh Tryz.prog 51 fi51=true:=by kernel_rfl
def c52:LC:=(sr [0] [1,2] [oA 1 (.box 6) 0,oo 2 (.box 6) [.c (.agg [iZ,iZ,iZ,iZ,nL,(.bool false)])],mK 3 0] (.seq (sr [1,2] [1,2,4] [oA 5 (Lt 6) 1,oA 6 (pC 56) 5,mm 4 6] (sr [1,2,4] [1,2,4,8] [mm 7 4,oC 8 Bn 7 0] (cD 8 (sr [2,4] [2,3] [oo 9 (.bld [iZ,iZ,iZ,iZ,nL,(.bool false)] []) [],mm 10 4,sT 6 2 9,mm 3 10] .ret) .skip))) (.seq (sr [1,2] [1,2,12] [ff 11 5 1,ll 12 11] (cD 12 (sr [2] [2,3] [oo 13 (.bld [iZ,iZ,iZ,iZ,nL,(.bool false)] []) [],sT 6 2 13,mK 3 19] .ret) .skip)) (sr [1,2] [1,2] [ff 14 5 1,.op none (.store 1) [.t 14,.c (.bool true)]] (sr [1,2] [2,3] [oA 15 (Lt 6) 1,sT 6 2 15,mK 3 0] .ret)))))
def fi52:FI:=⟨1,16,c52,[.cell 2 true 6,.tmp 3]⟩
theorem ok52:zh Tryz.prog 52 fi52=true:=by kernel_rfl
def zmm:LC:=(sr [2,3,58,59,60] [2,3,58,59,60,61] [oB 61 Bl 60 59] (.seq (cD 61 .skip (.exit 2)) (.seq (.block 3 [2,3,58,59,60] (sr [2,3,58,59,60] [2,3,10,58,59,60] [oB 62 (iA 1) 58 60,ll 63 62,mm 10 63] (sr [2,3,10,58,59,60] [2,3,58,59,60,70] [mm 64 10,oA 65 Ln 64,oC 66 Bg 65 200,mm 67 66,sO 70 67 [mm 68 10,oo 69 (.call 96) [.t 68,.c (.clo 97 [] [])]] (.t 69)] (cD 70 (sr [] [4] [mB 4 false] .ret) .skip)))) (.reg false [2,3,58,59,60] [2,3,58,59,60] [oC 71 Ba 60 1,mm 60 71]))))
def zuB:LC:=zmm
theorem zhi:ELq zuB zmm:=fun _ _ _=>rfl
def zpn:LC:=(sr [2,3,37,38,39] [2,3,37,38,39,40] [oB 40 Bl 39 38] (.seq (cD 40 .skip (.exit 0)) (.seq (.block 1 [2,3,37,38,39] (sr [2,3,37,38,39] [2,3,5,6,37,38,39] [mm 41 39,oB 42 (iA 3) 37 39,oA 43 (Lt 3) 42,oo 6 (.box 3) [.c (.agg [nL,iZ,(.bool false)])],mm 5 41,sT 3 6 43] (st [2,3,5,6,37,38,39] [2,3,8,37,38,39] [ff 45 0 2,ll 46 45,mm 47 5,oB 48 (iA 8) 46 47,oA 49 (Lt 8) 48,oA 50 (Lt 3) 6,oB 51 (pC 95) 49 50,mm 44 51,oA 52 (.ext 0) 44,oA 53 (.ext 1) 44,mm 7 52,mm 8 53] (sr [2,3,8,37,38,39] [2,3,37,38,39,55] [mm 54 8,oC 55 Bn 54 0] (cD 55 (sr [] [4] [mB 4 false] .ret) .skip))))) (.reg false [2,3,37,38,39] [2,3,37,38,39] [oC 56 Ba 39 1,mm 39 56]))))
def zuA:LC:=zpn
theorem zjW:ELq zuA zpn:=fun _ _ _=>rfl
def c53:LC:=(sr [0,1] [2,3] [oA 2 (.box 2) 0,oA 3 (.box 4) 1,mB 4 false] (.seq (st [2,3] [2,3,35] [ff 11 0 3,ll 12 11,oA 13 Ln 12,ff 14 0 2,ll 15 14,oA 16 Ln 15,oB 17 Bn 13 16,mm 18 17,sO 26 18 [ff 19 1 3,ll 20 19,oA 21 Ln 20,ff 22 1 2,ll 23 22,oA 24 Ln 23,oB 25 Bn 21 24] (.t 25),mm 27 26,sO 35 27 [ff 28 2 3,ll 29 28,oA 30 Ln 29,ff 31 0 2,ll 32 31,oA 33 (pC 43) 32,oB 34 Bn 30 33] (.t 34)] (cD 35 (sr [] [4] [mB 4 false] .ret) .skip)) (.seq (sr [2,3] [2,3,37,38,39] [ff 36 0 3,ll 37 36,oA 38 Ln 37,mK 39 0] (.block 0 [2,3] (.loop [2,3,37,38,39] zuA))) (.seq (sr [2,3] [2,3,58,59,60] [ff 57 2 3,ll 58 57,oA 59 Ln 58,mK 60 0] (.block 2 [2,3] (.loop [2,3,58,59,60] zuB))) (sr [2,3] [4] [oA 72 (Lt 2) 2,oA 73 (Lt 4) 3,oB 74 (pC 98) 72 73,mm 4 74] .ret)))))
def fi53:FI:=⟨2,75,c53,[.tmp 4]⟩
theorem ok53:zh Tryz.prog 53 fi53=true:=by kernel_rfl
def zml:LC:=(.seq (sr [3,5,6] [3,5,6,37] [mm 30 6,ff 31 2 3,ll 32 31,mm 33 5,oB 34 (iA 1) 32 33,ll 35 34,oA 36 Ln 35,oB 37 Bl 30 36] (cD 37 .skip (.exit 2))) (.seq (.block 3 [3,5,6] (sr [3,5,6] [3,5,6,59] [ff 40 2 3,ll 41 40,mm 42 5,oB 43 (iA 1) 41 42,ll 44 43,mm 45 6,oB 46 (iA 1) 44 45,ll 47 46,oo 48 Bl [.t 47,.c (.int .i64 (-1099511627776))],mm 49 48,sO 59 49 [ff 50 2 3,ll 51 50,mm 52 5,oB 53 (iA 1) 51 52,ll 54 53,mm 55 6,oB 56 (iA 1) 54 55,ll 57 56,oC 58 Bg 57 1099511627776] (.t 58)] (cD 59 (sr [] [4] [mB 4 false] .ret) .skip))) (.reg false [3,5,6] [3,5,6] [mm 38 6,oC 39 Ba 38 1,mm 6 39])))
def zuz:LC:=zml
theorem zhh:ELq zuz zml:=fun _ _ _=>rfl
def zmk:LC:=(.seq (sr [3,5] [3,5,20] [mm 16 5,ff 17 2 3,ll 18 17,oA 19 Ln 18,oB 20 Bl 16 19] (cD 20 .skip (.exit 0))) (.seq (.block 1 [3,5] (.seq (sr [3,5] [3,5,29] [ff 23 2 3,ll 24 23,mm 25 5,oB 26 (iA 1) 24 25,ll 27 26,oA 28 Ln 27,oC 29 Bg 28 200] (cD 29 (sr [] [4] [mB 4 false] .ret) .skip)) (sr [3,5] [3,5,6] [mK 6 0] (.block 2 [3,5] (.loop [3,5,6] zuz))))) (.reg false [3,5] [3,5] [mm 21 5,oC 22 Ba 21 1,mm 5 22])))
def zuy:LC:=zmk
theorem zhg:ELq zuy zmk:=fun _ _ _=>rfl
def c54:LC:=(sr [0,1] [2,3] [oA 2 (.box 2) 0,oA 3 (.box 4) 1,mB 4 false] (.seq (st [2,3] [3,15] [ff 7 2 3,ll 8 7,oA 9 Ln 8,oA 10 (Lt 2) 2,ff 11 0 2,ll 12 11,oA 13 Ln 12,oB 14 (pC 48) 10 13,oB 15 Bn 9 14] (cD 15 (sr [] [4] [mB 4 false] .ret) .skip)) (.seq (sr [3] [3,5] [mK 5 0] (.block 0 [] (.loop [3,5] zuy))) (sr [] [4] [mB 4 true] .ret))))
def fi54:FI:=⟨2,60,c54,[.tmp 4]⟩
theorem ok54:zh Tryz.prog 54 fi54=true:=by kernel_rfl
def c55:LC:=(sr [0,1] [2,3] [oA 2 (.box 8) 0,oA 3 (.box 3) 1,oo 4 .mv [.c nL],mK 5 0] (.seq (sr [2,3] [2,3,6] [oA 7 (Lt 8) 2,oA 8 (Lt 3) 3,oB 9 (pC 99) 7 8,mm 6 9] (sr [2,3,6] [2,3,6,11] [mm 10 6,oC 11 Bn 10 0] (cD 11 (sr [6] [4,5] [oo 12 (.bsl true 1 0 iZ []) [],mm 13 6,mm 4 12,mm 5 13] .ret) .skip))) (.seq (sr [2,3] [2,3,20] [ff 14 2 3,ll 15 14,mm 16 15,sO 20 16 [ff 17 0 2,ll 18 17,oC 19 Be 18 1] (.t 19)] (cD 20 (sr [] [4,5] [oo 21 (.bsl true 1 0 iZ []) [],mm 4 21,mK 5 0] .ret) .skip)) (.seq (sr [2,3] [2,3,24] [ff 22 0 2,ll 23 22,oC 24 Be 23 8] (cD 24 (.seq (sr [2,3] [3,29] [oA 25 (Lt 8) 2,oA 26 (Lt 3) 3,ff 27 1 3,ll 28 27,oo 29 (pC 100) [.t 25,.t 26,.t 28]] (cD 29 (sr [3] [4,5] [ff 30 1 3,ll 31 30,oo 32 (.bin .sub) [kk 1,.t 31],oo 33 (.bsl true 1 1 iZ [0]) [.t 32],mm 4 33,mK 5 0] .ret) .skip)) (sr [3] [4,5] [ff 34 1 3,ll 35 34,oo 36 (.bsl true 1 1 iZ [0]) [.t 35],mm 4 36,mK 5 0] .ret)) .skip)) (.seq (sr [2,3] [50] [ff 37 0 2,ll 38 37,oC 39 Be 38 9,mm 40 39,sA 50 40 [oA 41 (Lt 8) 2,oA 42 (Lt 3) 3,oo 43 (pC 100) [.t 41,.t 42,kk 0],mm 44 43,sO 49 44 [ff 45 0 3,ll 46 45,oA 47 Ln 46,oC 48 Bg 47 0] (.t 48)] 49] (cD 50 (sr [] [4,5] [oo 51 (.bsl true 1 1 iZ [0]) [kk 1],mm 4 51,mK 5 0] .ret) .skip)) (sr [] [4,5] [oo 52 (.bsl true 1 1 iZ [0]) [kk 0],mm 4 52,mK 5 0] .ret))))))
def fi55:FI:=⟨2,53,c55,[.tmp 4,.tmp 5]⟩
theorem ok55:zh Tryz.prog 55 fi55=true:=by kernel_rfl
def zpm:LC:=(.seq (sr [1,3] [1,3,59] [mm 55 3,ff 56 4 1,ll 57 56,oA 58 Ln 57,oB 59 Bl 55 58] (cD 59 .skip (.exit 0))) (.seq (.block 1 [1,3] (sr [1,3] [1,3,68] [ff 62 4 1,ll 63 62,mm 64 3,oB 65 (iA 1) 63 64,ll 66 65,oA 67 (pC 94) 66,oA 68 .not 67] (cD 68 (sr [] [2] [mK 2 1] .ret) .skip))) (.reg false [1,3] [1,3] [mm 60 3,oC 61 Ba 60 1,mm 3 61])))
def zqY:LC:=zpm
theorem zjV:ELq zqY zpm:=fun _ _ _=>rfl
def c56:LC:=(sr [0] [1] [oA 1 (.box 6) 0,mK 2 0] (.seq (sr [1] [1,11] [ff 4 0 1,ll 5 4,oC 6 Bl 5 1,mm 7 6,sO 11 7 [ff 8 0 1,ll 9 8,oC 10 Bg 9 100] (.t 10)] (cD 11 (sr [] [2] [mK 2 2] .ret) .skip)) (.seq (sr [1] [1,54] [ff 12 3 1,ll 13 12,oC 14 Bl 13 0,mm 15 14,sO 21 15 [ff 16 3 1,ll 17 16,ff 18 2 1,ll 19 18,oB 20 Bg 17 19] (.t 20),mm 22 21,sO 28 22 [ff 23 2 1,ll 24 23,ff 25 1 1,ll 26 25,oB 27 Bg 24 26] (.t 27),mm 29 28,sO 33 29 [ff 30 1 1,ll 31 30,oC 32 Bg 31 1099511627776] (.t 32),mm 34 33,sO 43 34 [ff 35 1 1,ll 36 35,ff 37 3 1,ll 38 37,ff 39 0 1,ll 40 39,oB 41 Ba 38 40,oB 42 Bg 36 41] (.t 42),mm 44 43,sO 54 44 [ff 45 4 1,ll 46 45,oA 47 Ln 46,ff 48 2 1,ll 49 48,ff 50 3 1,ll 51 50,oB 52 (.bin .sub) 49 51,oB 53 Bn 47 52] (.t 53)] (cD 54 (sr [] [2] [mK 2 1] .ret) .skip)) (.seq (sr [1] [1,3] [mK 3 0] (.block 0 [] (.loop [1,3] zqY))) (sr [] [2] [mK 2 0] .ret)))))
def fi56:FI:=⟨1,69,c56,[.tmp 2]⟩
theorem ok56:zh Tryz.prog 56 fi56=true:=by kernel_rfl
def zpl:LC:=(.seq (sr [2,4,7] [2,4,7,16] [mm 12 7,ff 13 0 4,ll 14 13,oA 15 Ln 14,oB 16 Bl 12 15] (cD 16 .skip (.exit 1))) (.seq (.block 2 [2,4,7] (sr [2,4,7] [2,4,7,25] [ff 19 0 4,ll 20 19,mm 21 7,oB 22 (iA 1) 20 21,ll 23 22,mm 24 2,oB 25 Be 23 24] (cD 25 (sr [] [6] [mB 6 true] .ret) .skip))) (.reg false [2,4,7] [2,4,7] [mm 17 7,oC 18 Ba 17 1,mm 7 18])))
def zqX:LC:=zpl
theorem zjU:ELq zqX zpl:=fun _ _ _=>rfl
abbrev zs4:LC:=(sr [2,4,9] [2,4,26] [oC 27 Be 9 9,mm 26 27] (cD 26 (.seq (sr [2,4] [4,29] [mm 28 2,oC 29 Be 28 0] (cD 29 (sr [4] [6] [ff 30 1 4,ll 31 30,oC 32 Be 31 1,mm 33 32,sO 37 33 [ff 34 1 4,ll 35 34,oC 36 Be 35 3] (.t 36),mm 6 37] .ret) .skip)) (sr [4] [6] [ff 38 1 4,ll 39 38,oC 40 (.bin .geq) 39 2,mm 6 40] .ret)) .skip))
def zwl:LC:=zs4
@[simp] theorem evy57_0:ELq zwl zs4:=fun _ _ _=>rfl
def c57:LC:=(sr [0,1,2] [2,3,4] [oA 3 (.box 8) 0,oA 4 (.box 3) 1,mB 6 false] (.seq (sr [2,3,4] [2,4,9] [ff 8 0 3,ll 9 8] (.block 0 [4] (sr [2,4,9] [2,4,9,10] [oC 11 Be 9 8,mm 10 11] (cD 10 (.seq (sr [2,4] [2,4,7] [mK 7 0] (.block 1 [] (.loop [2,4,7] zqX))) (sr [] [6] [mB 6 false] .ret)) zwl)))) (sr [4] [6] [ff 41 2 4,ll 42 41,mm 6 42] .ret)))
def fi57:FI:=⟨3,43,c57,[.tmp 6]⟩
theorem ok57:zh Tryz.prog 57 fi57=true:=by kernel_rfl
def c58:LC:=(sr [0] [1] [oA 1 (.box 6) 0,mB 2 false] (sr [1] [2] [oA 3 (Lt 6) 1,oA 4 (pC 56) 3,oC 5 Be 4 0,mm 6 5,sA 9 6 [ff 7 5 1,ll 8 7] 8,mm 10 9,sA 15 10 [ff 11 4 1,ll 12 11,oA 13 Ln 12,oC 14 Be 13 0] 14,mm 2 15] .ret))
def fi58:FI:=⟨1,16,c58,[.tmp 2]⟩
theorem ok58:zh Tryz.prog 58 fi58=true:=by kernel_rfl
def c59:LC:=(sr [0,1] [2,3] [oA 2 (.box 3) 0,oA 3 (.box 3) 1,mB 4 false] (sr [2,3] [4] [ff 5 0 2,ll 6 5,ff 7 0 3,ll 8 7,oB 9 (pC 76) 6 8,mm 10 9,sA 16 10 [ff 11 1 2,ll 12 11,ff 13 1 3,ll 14 13,oB 15 Be 12 14] 15,mm 17 16,sA 23 17 [ff 18 2 2,ll 19 18,ff 20 2 3,ll 21 20,oB 22 (.eqb false) 19 21] 22,mm 4 23] .ret))
def fi59:FI:=⟨2,24,c59,[.tmp 4]⟩
theorem ok59:zh Tryz.prog 59 fi59=true:=by kernel_rfl
def c60:LC:=(sr [0,1] [2,3] [oA 2 (.box 6) 0,oA 3 (.box 6) 1,mB 4 false] (sr [2,3] [4] [ff 5 0 2,ll 6 5,ff 7 0 3,ll 8 7,oB 9 Be 6 8,mm 10 9,sA 16 10 [ff 11 1 2,ll 12 11,ff 13 1 3,ll 14 13,oB 15 Be 12 14] 15,mm 17 16,sA 23 17 [ff 18 2 2,ll 19 18,ff 20 2 3,ll 21 20,oB 22 Be 19 21] 22,mm 24 23,sA 30 24 [ff 25 3 2,ll 26 25,ff 27 3 3,ll 28 27,oB 29 Be 26 28] 29,mm 31 30,sA 37 31 [ff 32 5 2,ll 33 32,ff 34 5 3,ll 35 34,oB 36 (.eqb false) 33 35] 36,mm 38 37,sA 44 38 [ff 39 4 2,ll 40 39,ff 41 4 3,ll 42 41,oB 43 (pC 76) 40 42] 43,mm 4 44] .ret))
def fi60:FI:=⟨2,45,c60,[.tmp 4]⟩
theorem ok60:zh Tryz.prog 60 fi60=true:=by kernel_rfl
def c61:LC:=(sr [0] [1] [oA 1 (.box 8) 0,mK 2 0] (.seq (sr [1] [1,8] [ff 5 0 1,ll 6 5,oo 7 (pC 101) [.t 6,kk 1,kk 10],oA 8 .not 7] (cD 8 (sr [] [2] [mK 2 8] .ret) .skip)) (sr [1] [1,3] [ff 9 0 1,ll 10 9,oC 11 Be 10 4,mm 12 11,sO 16 12 [ff 13 0 1,ll 14 13,oC 15 Be 14 5] (.t 15),mm 17 16,sO 21 17 [ff 18 0 1,ll 19 18,oC 20 Be 19 6] (.t 20),mm 3 21] (.seq (sr [1,3] [1,51] [mm 22 3,oA 23 .not 22,mm 24 23,sA 28 24 [ff 25 1 1,ll 26 25,oC 27 Bn 26 0] 27,mm 29 28,sO 39 29 [ff 30 0 1,ll 31 30,oC 32 Bn 31 1,mm 33 32,sA 38 33 [ff 34 7 1,ll 35 34,oA 36 Ln 35,oC 37 Bg 36 0] 37] (.t 38),mm 40 39,sO 51 40 [ff 41 0 1,ll 42 41,oA 43 (pC 102) 42,oC 44 Be 43 0,mm 45 44,sA 50 45 [ff 46 2 1,oA 47 (Lt 5) 46,oA 48 (pC 103) 47,oA 49 .not 48] 49] (.t 50)] (cD 51 (sr [] [2] [mK 2 1] .ret) .skip)) (.seq (sr [1] [1,82] [ff 52 0 1,ll 53 52,oC 54 Be 53 4,mm 55 54,sA 60 55 [ff 56 1 1,ll 57 56,oo 58 (pC 101) [.t 57,kk 1,kk 100],oA 59 .not 58] 59,mm 61 60,sO 71 61 [ff 62 0 1,ll 63 62,oC 64 Be 63 5,mm 65 64,sA 70 65 [ff 66 1 1,ll 67 66,oo 68 (pC 101) [.t 67,kk 0,kk 100],oA 69 .not 68] 69] (.t 70),mm 72 71,sO 82 72 [ff 73 0 1,ll 74 73,oC 75 Be 74 6,mm 76 75,sA 81 76 [ff 77 1 1,ll 78 77,oo 79 (pC 101) [.t 78,kk 0,kk 200],oA 80 .not 79] 80] (.t 81)] (cD 82 (sr [] [2] [mK 2 2] .ret) .skip)) (.seq (sr [1] [1,4] [ff 83 7 1,ll 84 83,oA 85 (pC 104) 84,mm 4 85] (sr [1,4] [1,4,87] [mm 86 4,oC 87 Bn 86 0] (cD 87 (sr [4] [2] [mm 88 4,mm 2 88] .ret) .skip))) (.seq (sr [1] [1,92] [ff 89 0 1,ll 90 89,oA 91 (pC 102) 90,oC 92 Bn 91 0] (cD 92 (sr [1] [2] [oA 93 (Lt 8) 1,oA 94 (pC 105) 93,mm 2 94] .ret) .skip)) (sr [] [2] [mK 2 0] .ret))))))))
def fi61:FI:=⟨1,95,c61,[.tmp 2]⟩
theorem ok61:zh Tryz.prog 61 fi61=true:=by kernel_rfl
def c62:LC:=(sr [0,1] [1,2] [oA 2 (.box 2) 0,mK 4 0] (sr [1,2] [1,2,5] [ff 7 1 2,ll 8 7,mm 9 1,oB 10 (iA 5) 8 9,oA 11 (Lt 5) 10,oo 5 (.box 5) [.c (.agg [iZ,iZ,iZ,iZ,iZ])],sT 5 5 11] (sr [1,2,5] [1,2,5,6] [ff 12 0 2,ll 13 12,oA 14 Ln 13,mm 6 14] (.seq (sr [1,2,5,6] [1,2,5,44] [ff 15 0 5,ll 16 15,oC 17 Bl 16 0,mm 18 17,sO 23 18 [ff 19 0 5,ll 20 19,mm 21 6,oB 22 (.bin .geq) 20 21] (.t 22),mm 24 23,sO 28 24 [ff 25 2 5,ll 26 25,oC 27 Bl 26 0] (.t 27),mm 29 28,sO 34 29 [ff 30 2 5,ll 31 30,mm 32 6,oB 33 (.bin .geq) 31 32] (.t 33),mm 35 34,sO 39 35 [ff 36 4 5,ll 37 36,oC 38 Bl 37 1] (.t 38),mm 40 39,sO 44 40 [ff 41 4 5,ll 42 41,oC 43 Bg 42 100] (.t 43)] (cD 44 (sr [] [4] [mK 4 2] .ret) .skip)) (.seq (st [1,2,5] [1,2,5,76] [ff 45 1 5,ll 46 45,oC 47 Bl 46 0,mm 48 47,sO 59 48 [ff 49 1 5,ll 50 49,ff 51 0 2,ll 52 51,ff 53 0 5,ll 54 53,oB 55 (iA 8) 52 54,oA 56 (Lt 8) 55,oA 57 (pC 63) 56,oB 58 (.bin .geq) 50 57] (.t 58),mm 60 59,sO 64 60 [ff 61 3 5,ll 62 61,oC 63 Bl 62 0] (.t 63),mm 65 64,sO 76 65 [ff 66 3 5,ll 67 66,ff 68 0 2,ll 69 68,ff 70 2 5,ll 71 70,oB 72 (iA 8) 69 71,oA 73 (Lt 8) 72,oA 74 (pC 64) 73,oB 75 (.bin .geq) 67 74] (.t 75)] (cD 76 (sr [] [4] [mK 4 2] .ret) .skip)) (.seq (sr [1,2,5] [2,5,94] [oA 77 (Lt 2) 2,ff 78 0 5,ll 79 78,ff 80 1 5,ll 81 80,oo 82 (pC 50) [.t 77,.t 79,.t 81],mm 83 1,oB 84 Bl 82 83,mm 85 84,sO 94 85 [oA 86 (Lt 2) 2,ff 87 2 5,ll 88 87,ff 89 3 5,ll 90 89,oo 91 (pC 65) [.t 86,.t 88,.t 90],mm 92 1,oB 93 Bl 91 92] (.t 93)] (cD 94 (sr [] [4] [mK 4 6] .ret) .skip)) (.seq (st [2,5] [114] [ff 95 0 2,ll 96 95,ff 97 0 5,ll 98 97,oB 99 (iA 8) 96 98,ff 100 0 99,ll 101 100,oC 102 Be 101 5,mm 103 102,sA 114 103 [ff 104 0 2,ll 105 104,ff 106 0 5,ll 107 106,oB 108 (iA 8) 105 107,ff 109 1 108,ll 110 109,ff 111 4 5,ll 112 111,oB 113 Bg 110 112] 113] (cD 114 (sr [] [4] [mK 4 2] .ret) .skip)) (sr [] [4] [mK 4 0] .ret))))))))
def fi62:FI:=⟨2,115,c62,[.tmp 4]⟩
theorem ok62:zh Tryz.prog 62 fi62=true:=by kernel_rfl
def c63:LC:=(sr [0] [1] [oA 1 (.box 8) 0,mK 2 0] (.seq (sr [1] [1,10] [oA 3 (Lt 8) 1,oA 4 (pC 61) 3,oC 5 Bn 4 0,mm 6 5,sO 10 6 [ff 7 0 1,ll 8 7,oC 9 Be 8 10] (.t 9)] (cD 10 (sr [] [2] [mK 2 0] .ret) .skip)) (.seq (sr [1] [13] [ff 11 0 1,ll 12 11,oC 13 Be 12 7] (cD 13 (sr [] [2] [mK 2 2] .ret) .skip)) (sr [] [2] [mK 2 1] .ret))))
def fi63:FI:=⟨1,14,c63,[.tmp 2]⟩
theorem ok63:zh Tryz.prog 63 fi63=true:=by kernel_rfl
def c64:LC:=(sr [0] [1] [oA 1 (.box 8) 0,mK 2 0] (.seq (sr [1] [1,10] [oA 3 (Lt 8) 1,oA 4 (pC 61) 3,oC 5 Bn 4 0,mm 6 5,sO 10 6 [ff 7 0 1,ll 8 7,oC 9 Be 8 1] (.t 9)] (cD 10 (sr [] [2] [mK 2 0] .ret) .skip)) (.seq (sr [1] [18] [ff 11 0 1,ll 12 11,oC 13 Be 12 8,mm 14 13,sO 18 14 [ff 15 0 1,ll 16 15,oC 17 Be 16 9] (.t 17)] (cD 18 (sr [] [2] [mK 2 2] .ret) .skip)) (sr [] [2] [mK 2 1] .ret))))
def fi64:FI:=⟨1,19,c64,[.tmp 2]⟩
theorem ok64:zh Tryz.prog 64 fi64=true:=by kernel_rfl
def zmj:LC:=(.seq (sr [1,2,3,7] [1,2,3,7,12] [mm 8 7,ff 9 1 3,ll 10 9,oA 11 Ln 10,oB 12 Bl 8 11] (cD 12 .skip (.exit 0))) (.seq (.block 1 [1,2,3,7] (sr [1,2,3,7] [1,2,3,7,32] [ff 15 1 3,ll 16 15,mm 17 7,oB 18 (iA 5) 16 17,ff 19 2 18,ll 20 19,mm 21 1,oB 22 Be 20 21,mm 23 22,sA 32 23 [ff 24 1 3,ll 25 24,mm 26 7,oB 27 (iA 5) 25 26,ff 28 3 27,ll 29 28,mm 30 2,oB 31 Be 29 30] 31] (cD 32 (sr [7] [6] [mm 33 7,mm 6 33] .ret) .skip))) (.reg false [1,2,3,7] [1,2,3,7] [mm 13 7,oC 14 Ba 13 1,mm 7 14])))
def zux:LC:=zmj
theorem zhf:ELq zux zmj:=fun _ _ _=>rfl
def c65:LC:=(sr [0,1,2] [1,2,3] [oA 3 (.box 2) 0,mK 6 0] (.seq (sr [1,2,3] [1,2,3,7] [mK 7 0] (.block 0 [] (.loop [1,2,3,7] zux))) (sr [] [6] [oo 6 .mv [.c (.int .i64 (-1))]] .ret)))
def fi65:FI:=⟨3,34,c65,[.tmp 6]⟩
theorem ok65:zh Tryz.prog 65 fi65=true:=by kernel_rfl
def zpk:LC:=(.seq (sr [1,3,5,6,7,8] [1,3,5,6,7,8,52] [mm 49 8,mm 50 3,oA 51 Ln 50,oB 52 Bl 49 51] (cD 52 .skip (.exit 4))) (.seq (.block 5 [1,3,5,6,7,8] (sr [1,3,5,6,7,8] [1,3,5,6,7,8,60] [mm 55 3,mm 56 8,oB 57 (iA 1) 55 56,ll 58 57,mm 59 7,oB 60 Be 58 59] (cD 60 (.reg false [1,3,5,6,7,8] [1,3,5,6,7,8] [mm 61 3,mm 62 8,mm 63 6,oB 64 (iA 1) 61 62,sT 1 64 63]) .skip))) (.reg false [1,3,5,6,7,8] [1,3,5,6,7,8] [mm 53 8,oC 54 Ba 53 1,mm 8 54])))
def zuw:LC:=zpk
theorem zjT:ELq zuw zpk:=fun _ _ _=>rfl
def zpj:LC:=(.seq (sr [1,3,5] [1,3,5,25] [mm 21 5,ff 22 1 1,ll 23 22,oA 24 Ln 23,oB 25 Bl 21 24] (cD 25 .skip (.exit 2))) (.seq (.block 3 [1,3,5] (st [1,3,5] [1,3,5,6,7] [mm 28 3,ff 29 1 1,ll 30 29,mm 31 5,oB 32 (iA 5) 30 31,ff 33 0 32,ll 34 33,oB 35 (iA 1) 28 34,ll 36 35,mm 37 3,ff 38 1 1,ll 39 38,mm 40 5,oB 41 (iA 5) 39 40,ff 42 2 41,ll 43 42,oB 44 (iA 1) 37 43,ll 45 44,mm 6 36,mm 7 45] (.seq (sr [1,3,5,6,7] [1,3,5,6,7,48] [mm 46 6,mm 47 7,oB 48 Be 46 47] (cD 48 (sr [] [2] [mB 2 true] .ret) .skip)) (sr [1,3,5,6,7] [1,3,5,6,7,8] [mK 8 0] (.block 4 [1,3,5] (.loop [1,3,5,6,7,8] zuw)))))) (.reg false [1,3,5] [1,3,5] [mm 26 5,oC 27 Ba 26 1,mm 5 27])))
def zuv:LC:=zpj
theorem zjS:ELq zuv zpj:=fun _ _ _=>rfl
def zsg:LC:=(.seq (sr [1,3,4] [1,3,4,14] [mm 10 4,ff 11 0 1,ll 12 11,oA 13 Ln 12,oB 14 Bl 10 13] (cD 14 .skip (.exit 0))) (.seq (.block 1 [1,3,4] (.reg false [1,3,4] [1,3,4] [mm 17 3,mm 18 4,oo 19 (.bsl true 1 1 iZ [0]) [.t 18],oB 20 (.app 1) 17 19,mm 3 20])) (.reg false [1,3,4] [1,3,4] [mm 15 4,oC 16 Ba 15 1,mm 4 16])))
def zuu:LC:=zsg
theorem zoQ:ELq zuu zsg:=fun _ _ _=>rfl
def c66:LC:=(sr [0] [1] [oA 1 (.box 2) 0,mB 2 false] (sr [1] [1,3] [oo 9 (.bsl false 1 0 iZ []) [],mm 3 9] (.seq (sr [1,3] [1,3,4] [mK 4 0] (.block 0 [1,3] (.loop [1,3,4] zuu))) (.seq (sr [1,3] [1,3,5] [mK 5 0] (.block 2 [] (.loop [1,3,5] zuv))) (sr [] [2] [mB 2 false] .ret)))))
def fi66:FI:=⟨1,65,c66,[.tmp 2]⟩
theorem ok66:zh Tryz.prog 66 fi66=true:=by kernel_rfl
def zA8:LC:=(sr [1,3,9,10,11] [1,3,9,10,11,12] [oB 12 Bl 11 10] (.seq (cD 12 .skip (.exit 0)) (.seq (.block 1 [1,3,9,10,11] (sr [1,3,9,10,11] [1,3,5,9,10,11] [oB 13 (iA 5) 9 11,oA 14 (Lt 5) 13,oo 5 (.box 5) [.c (.agg [iZ,iZ,iZ,iZ,iZ])],sT 5 5 14] (.reg false [1,3,5,9,10,11] [1,3,9,10,11] [mm 15 3,ff 16 0 5,ll 17 16,ff 18 2 5,ll 19 18,oo 20 (.bld [iZ,iZ] [(0,1),(1,1)]) [.t 17,.t 19],oo 21 (.bsl true 2 1 (.agg [iZ,iZ]) [0]) [.t 20],oB 22 (.app 2) 15 21,mm 3 22]))) (.reg false [1,3,9,10,11] [1,3,9,10,11] [oC 23 Ba 11 1,mm 11 23]))))
def zAL:LC:=zA8
def c67:LC:=(sr [0] [1] [oA 1 (.box 2) 0,oo 2 .mv [.c nL]] (sr [1] [1,3] [oo 3 .mv [.c nL]] (.seq (sr [1,3] [1,3,9,10,11] [ff 8 1 1,ll 9 8,oA 10 Ln 9,mK 11 0] (.block 0 [1,3] (.loop [1,3,9,10,11] zAL))) (sr [1,3] [1,3] [mm 24 3,oo 25 (.call 106) [.t 24,.c (.clo 107 [] [])]] (st [1,3] [6] [ff 27 0 1,ll 28 27,oA 29 Ln 28,mm 30 3,oB 31 (.callA 111 1) 30 27,oB 32 (.pubcall 110) 29 31,mm 26 32,oA 33 (.ext 0) 26,oA 34 (.ext 1) 26,mm 6 33,mm 7 34] (sr [6] [2] [mm 35 6,mm 2 35] .ret))))))
def fi67:FI:=⟨1,36,c67,[.tmp 2]⟩
theorem ok67:zh Tryz.prog 67 fi67=true:=by kernel_rfl
def c68:LC:=(sr [0] [1] [oA 1 (.box 8) 0,mK 2 0] (.seq (sr [1] [1,7] [oA 5 (Lt 8) 1,oA 6 (pC 72) 5,oC 7 Bn 6 0] (cD 7 (sr [] [2] [mK 2 0] .ret) .skip)) (sr [1] [3] [ff 9 0 1,ll 10 9,oA 11 (pC 112) 10,mm 8 11,oA 12 (.ext 0) 8,oA 13 (.ext 1) 8,oo 3 (.box 8) [.c (.agg [iZ,iZ,iZ,iZ,iZ,nL,.nilf,.nilf])],sT 8 3 12,mm 4 13] (sr [3] [2] [ff 14 0 3,ll 15 14,mm 2 15] .ret))))
def fi68:FI:=⟨1,16,c68,[.tmp 2]⟩
theorem ok68:zh Tryz.prog 68 fi68=true:=by kernel_rfl
def c69:LC:=(sr [0,1,2] [3,4,5] [oA 3 (.box 2) 0,oA 4 (.box 1) 1,oA 5 (.box 1) 2,mK 6 0] (sr [3,4,5] [6] [ff 7 1 3,ll 8 7,oB 9 (.clo 114 0) 4 5,oB 10 (.call 113) 8 9,mm 6 10] .ret))
def fi69:FI:=⟨3,11,c69,[.tmp 6]⟩
theorem ok69:zh Tryz.prog 69 fi69=true:=by kernel_rfl
def zA7:LC:=(sr [1,2,7,28,29,30] [1,2,7,28,29,30,31] [oB 31 Bl 30 29] (.seq (cD 31 .skip (.exit 0)) (.seq (.block 1 [1,2,7,28,29,30] (sr [1,2,7,28,29,30] [1,2,7,10,28,29,30] [oB 32 (iA 1) 28 30,ll 33 32,mm 10 33] (.seq (sr [1,2,7,10,28,29,30] [1,2,7,10,28,29,30,36] [mm 34 10,oA 35 Ln 34,oC 36 Bg 35 200] (cD 36 .any .skip)) (sr [1,2,7,10,28,29,30] [1,2,7,28,29,30,38] [mm 37 10,oo 38 (.call 96) [.t 37,.c (.clo 115 [] [])]] (cD 38 .any .skip))))) (.reg false [1,2,7,28,29,30] [1,2,7,28,29,30] [oC 39 Ba 30 1,mm 30 39]))))
def zAK:LC:=zA7
def c70:LC:=(.hol [99] (sr [0,1] [1,2] [oA 2 (.box 8) 0,oo 4 .mv [.c nL],mK 5 0] (.seq (sr [1,2] [1,2,6] [oA 12 (Lt 8) 2,oA 13 (pC 72) 12,mm 6 13] (sr [1,2,6] [1,2,6,15] [mm 14 6,oC 15 Bn 14 0] (cD 15 .any .skip))) (sr [1,2] [1,2,7] [ff 18 0 2,ll 19 18,oA 20 (pC 112) 19,mm 17 20,oA 21 (.ext 0) 17,oA 22 (.ext 1) 17,oo 7 (.box 8) [.c (.agg [iZ,iZ,iZ,iZ,iZ,nL,.nilf,.nilf])],sT 8 7 21,mm 8 22] (.seq (sr [1,2,7] [1,2,7,27] [mm 23 1,oA 24 Ln 23,ff 25 0 7,ll 26 25,oB 27 Bn 24 26] (cD 27 .any .skip)) (.seq (sr [1,2,7] [1,2,7,28,29,30] [mm 28 1,oA 29 Ln 28,mK 30 0] (.block 0 [1,2,7] (.loop [1,2,7,28,29,30] zAK))) (sr [1,2,7] [1,7,11] [oA 40 (Lt 8) 2,oo 41 (.bld [nL,iZ,(.bool false)] []) [],oB 42 (.call 117) 40 41,mm 11 42] (sr [1,7,11] [11] [mm 43 11,oA 44 (Lt 8) 7,mm 45 1,oo 46 (.call 118) [.t 43,.t 44,.t 45]] (.seq (sr [11] [11,51] [mm 47 11,oA 48 .nilchk 47,ff 49 12 48,ll 50 49,oC 51 Bn 50 0] (cD 51 .any .skip)) (.seq (sr [11] [11,60] [mm 56 11,oA 57 .nilchk 56,ff 58 11 57,ll 59 58,oo 60 (.call 119) [.t 59,.c (.clo 120 [] [])]] (cD 60 .any .skip)) (sr [11] [4,5] [mm 61 11,oA 62 .nilchk 61,ff 63 11 62,ll 64 63,mm 4 64,mK 5 0] .ret)))))))))))
def fi70:FI:=⟨2,65,c70,[.tmp 4,.tmp 5]⟩
theorem ok70:zh Tryz.prog 70 fi70=true:=by kernel_rfl
def c71:LC:=(sr [0,1,2] [3,4,5] [oA 3 (.box 2) 0,oA 4 (.box 1) 1,oA 5 (.box 1) 2,mK 6 0] (sr [3,4,5] [6] [ff 7 1 3,ll 8 7,oB 9 (.clo 121 0) 4 5,oB 10 (.call 113) 8 9,mm 6 10] .ret))
def fi71:FI:=⟨3,11,c71,[.tmp 6]⟩
theorem ok71:zh Tryz.prog 71 fi71=true:=by kernel_rfl
def c72:LC:=(sr [0] [1] [oA 1 (.box 8) 0,mK 2 0] (sr [1] [1,3,4] [ff 7 0 1,ll 8 7,oA 9 (pC 112) 8,mm 6 9,oA 10 (.ext 0) 6,oA 11 (.ext 1) 6,oo 3 (.box 8) [.c (.agg [iZ,iZ,iZ,iZ,iZ,nL,.nilf,.nilf])],sT 8 3 10,mm 4 11] (.seq (sr [1,3,4] [1,3,13] [mm 12 4,oA 13 .not 12] (cD 13 (sr [] [2] [mK 2 8] .ret) .skip)) (sr [1,3] [1,3,5] [ff 14 2 1,ff 15 0 14,ll 16 15,oC 17 Be 16 0,mm 18 17,sA 23 18 [ff 19 2 1,ff 20 1 19,ll 21 20,oC 22 Be 21 0] 22,mm 24 23,sA 29 24 [ff 25 2 1,ff 26 2 25,ll 27 26,oo 28 Be [.t 27,.c (.str [])]] 28,mm 30 29,sA 35 30 [ff 31 2 1,ff 32 3 31,ll 33 32,oC 34 Be 33 0] 34,mm 36 35,sA 42 36 [ff 37 2 1,ff 38 4 37,ll 39 38,oA 40 Ln 39,oC 41 Be 40 0] 41,mm 5 42] (.seq (sr [1,3,5] [1,3,70] [ff 43 3 3,ll 44 43,oC 45 Be 44 0,mm 46 45,sA 50 46 [ff 47 1 1,ll 48 47,oC 49 Bn 48 0] 49,mm 51 50,sO 59 51 [ff 52 4 3,ll 53 52,oC 54 Be 53 0,mm 55 54,sA 58 55 [mm 56 5,oA 57 .not 56] 57] (.t 58),mm 60 59,sO 70 60 [ff 61 0 1,ll 62 61,oC 63 Bn 62 1,mm 64 63,sA 69 64 [ff 65 7 1,ll 66 65,oA 67 Ln 66,oC 68 Bg 67 0] 68] (.t 69)] (cD 70 (sr [] [2] [mK 2 1] .ret) .skip)) (.seq (sr [1,3] [1,3,82] [ff 71 1 1,ll 72 71,ff 73 2 3,ll 74 73,oB 75 Bl 72 74,mm 76 75,sO 82 76 [ff 77 1 1,ll 78 77,ff 79 3 3,ll 80 79,oB 81 Bg 78 80] (.t 81)] (cD 82 (sr [] [2] [mK 2 2] .ret) .skip)) (.seq (sr [1,3] [1,3,86] [ff 83 7 1,ll 84 83,oA 85 Ln 84,oC 86 Bg 85 200] (cD 86 (sr [] [2] [mK 2 4] .ret) .skip)) (.seq (sr [1,3] [1,3,89] [ff 87 7 1,ll 88 87,oo 89 (.call 96) [.t 88,.c (.clo 122 [] [])]] (cD 89 (sr [] [2] [mK 2 2] .ret) .skip)) (.seq (sr [1,3] [1,3,92] [ff 90 4 3,ll 91 90,oC 92 Be 91 0] (cD 92 (sr [] [2] [mK 2 0] .ret) .skip)) (sr [1,3] [2] [oA 93 (Lt 8) 3,ff 94 2 1,oA 95 (Lt 5) 94,oB 96 (.call 123) 93 95,mm 2 96] .ret))))))))))
def fi72:FI:=⟨1,97,c72,[.tmp 2]⟩
theorem ok72:zh Tryz.prog 72 fi72=true:=by kernel_rfl
def c73:LC:=(sr [0] [1] [oA 1 (.box 8) 0,mK 2 0] (.seq (sr [1] [1,7] [oA 5 (Lt 8) 1,oA 6 (pC 72) 5,oC 7 Bn 6 0] (cD 7 (sr [] [2] [mK 2 0] .ret) .skip)) (sr [1] [3] [ff 9 0 1,ll 10 9,oA 11 (pC 112) 10,mm 8 11,oA 12 (.ext 0) 8,oA 13 (.ext 1) 8,oo 3 (.box 8) [.c (.agg [iZ,iZ,iZ,iZ,iZ,nL,.nilf,.nilf])],sT 8 3 12,mm 4 13] (sr [3] [2] [ff 14 1 3,ll 15 14,mm 2 15] .ret))))
def fi73:FI:=⟨1,16,c73,[.tmp 2]⟩
theorem ok73:zh Tryz.prog 73 fi73=true:=by kernel_rfl
def c74:LC:=(sr [0,1] [1,2] [oA 2 (.box 2) 0,mK 4 0] (sr [1,2] [1,2,5] [ff 8 1 2,ll 9 8,mm 10 1,oB 11 (iA 5) 9 10,oA 12 (Lt 5) 11,oo 5 (.box 5) [.c (.agg [iZ,iZ,iZ,iZ,iZ])],sT 5 5 12] (sr [1,2,5] [1,2,5,6] [ff 13 0 2,ll 14 13,oA 15 Ln 14,oC 16 (.bin .sub) 15 1,mm 6 16] (.seq (st [1,2,5,6] [1,2,5,62] [ff 17 0 5,ll 18 17,mm 19 6,oo 20 (pC 39) [.t 18,kk 0,.t 19],oA 21 .not 20,mm 22 21,sO 28 22 [ff 23 2 5,ll 24 23,mm 25 6,oo 26 (pC 39) [.t 24,kk 0,.t 25],oA 27 .not 26] (.t 27),mm 29 28,sO 42 29 [ff 30 1 5,ll 31 30,ff 32 0 2,ll 33 32,ff 34 0 5,ll 35 34,oB 36 (iA 8) 33 35,oA 37 (Lt 8) 36,oA 38 (pC 73) 37,oC 39 (.bin .sub) 38 1,oo 40 (pC 39) [.t 31,kk 0,.t 39],oA 41 .not 40] (.t 41),mm 43 42,sO 56 43 [ff 44 3 5,ll 45 44,ff 46 0 2,ll 47 46,ff 48 2 5,ll 49 48,oB 50 (iA 8) 47 49,oA 51 (Lt 8) 50,oA 52 (pC 68) 51,oC 53 (.bin .sub) 52 1,oo 54 (pC 39) [.t 45,kk 0,.t 53],oA 55 .not 54] (.t 55),mm 57 56,sO 62 57 [ff 58 4 5,ll 59 58,oo 60 (pC 39) [.t 59,kk 1,kk 100],oA 61 .not 60] (.t 61)] (cD 62 (sr [] [4] [mK 4 2] .ret) .skip)) (.seq (sr [1,2,5] [2,5,80] [oA 63 (Lt 2) 2,ff 64 0 5,ll 65 64,ff 66 1 5,ll 67 66,oo 68 (pC 71) [.t 63,.t 65,.t 67],mm 69 1,oB 70 Bl 68 69,mm 71 70,sO 80 71 [oA 72 (Lt 2) 2,ff 73 2 5,ll 74 73,ff 75 3 5,ll 76 75,oo 77 (pC 69) [.t 72,.t 74,.t 76],mm 78 1,oB 79 Bl 77 78] (.t 79)] (cD 80 (sr [] [4] [mK 4 6] .ret) .skip)) (.seq (sr [2,5] [5,7] [ff 81 0 2,ll 82 81,ff 83 0 5,ll 84 83,oB 85 (iA 8) 82 84,oA 86 (Lt 8) 85,oo 7 (.box 8) [.c (.agg [iZ,iZ,iZ,iZ,(.str []),iZ,nL,nL])],sT 8 7 86] (sr [5,7] [96] [ff 87 0 7,ll 88 87,oC 89 Be 88 5,mm 90 89,sA 96 90 [ff 91 1 7,ll 92 91,ff 93 4 5,ll 94 93,oB 95 Bg 92 94] 95] (cD 96 (sr [] [4] [mK 4 2] .ret) .skip))) (sr [] [4] [mK 4 0] .ret)))))))
def fi74:FI:=⟨2,97,c74,[.tmp 4]⟩
theorem ok74:zh Tryz.prog 74 fi74=true:=by kernel_rfl
def zpi:LC:=(sr [3,7,8,26,27,28,45,46,47] [3,7,8,26,27,28,45,46,47,48] [oB 48 Bl 47 46] (.seq (cD 48 .skip (.exit 4)) (.seq (.block 5 [3,7,8,26,27,28,45,46,47] (sr [3,7,8,26,27,28,45,46,47] [3,7,8,9,10,26,27,28,45,46,47] [mm 49 47,oB 50 (iA 1) 45 47,ll 51 50,mm 9 49,mm 10 51] (sr [3,7,8,9,10,26,27,28,45,46,47] [3,7,8,9,26,27,28,45,46,47,54] [mm 52 10,mm 53 8,oB 54 Be 52 53] (cD 54 (.reg false [3,7,8,9,26,27,28,45,46,47] [3,7,8,26,27,28,45,46,47] [mm 55 3,mm 56 9,mm 57 7,oB 58 (iA 1) 55 56,sT 1 58 57]) .skip)))) (.reg false [3,7,8,26,27,28,45,46,47] [3,7,8,26,27,28,45,46,47] [oC 59 Ba 47 1,mm 47 59]))))
def zut:LC:=zpi
theorem zjR:ELq zut zpi:=fun _ _ _=>rfl
def zph:LC:=(sr [3,26,27,28] [3,26,27,28,29] [oB 29 Bl 28 27] (.seq (cD 29 .skip (.exit 2)) (.seq (.block 3 [3,26,27,28] (sr [3,26,27,28] [3,6,26,27,28] [oB 30 (iA 5) 26 28,oA 31 (Lt 5) 30,oo 6 (.box 5) [.c (.agg [iZ,iZ,iZ,iZ,iZ])],sT 5 6 31] (st [3,6,26,27,28] [3,7,8,26,27,28] [mm 32 3,ff 33 0 6,ll 34 33,oB 35 (iA 1) 32 34,ll 36 35,mm 37 3,ff 38 2 6,ll 39 38,oB 40 (iA 1) 37 39,ll 41 40,mm 7 36,mm 8 41] (.seq (sr [3,7,8,26,27,28] [3,7,8,26,27,28,44] [mm 42 7,mm 43 8,oB 44 Be 42 43] (cD 44 (sr [] [2] [mB 2 true] .ret) .skip)) (sr [3,7,8,26,27,28] [3,7,8,26,27,28,45,46,47] [mm 45 3,oA 46 Ln 45,mK 47 0] (.block 4 [3,26,27,28] (.loop [3,7,8,26,27,28,45,46,47] zut))))))) (.reg false [3,26,27,28] [3,26,27,28] [oC 60 Ba 28 1,mm 28 60]))))
def zus:LC:=zph
theorem zjQ:ELq zus zph:=fun _ _ _=>rfl
def zsf:LC:=(sr [1,3,16,17] [1,3,16,17,18] [oB 18 Bl 17 16] (.seq (cD 18 .skip (.exit 0)) (.seq (.block 1 [1,3,16,17] (sr [1,3,16,17] [1,3,4,16,17] [mm 19 17,mm 4 19] (.reg false [1,3,4,16,17] [1,3,16,17] [mm 20 3,mm 21 4,mm 22 4,oB 23 (iA 1) 20 21,sT 1 23 22]))) (.reg false [1,3,16,17] [1,3,16,17] [oC 24 Ba 17 1,mm 17 24]))))
def zur:LC:=zsf
theorem zoP:ELq zur zsf:=fun _ _ _=>rfl
def c75:LC:=(sr [0] [1] [oA 1 (.box 2) 0,mB 2 false] (sr [1] [1,3] [ff 11 0 1,ll 12 11,oA 13 Ln 12,oo 14 (.mksl 1 iZ) [.t 13,.t 13],mm 3 14] (.seq (sr [1,3] [1,3,16,17] [mm 15 3,oA 16 Ln 15,mK 17 0] (.block 0 [1,3] (.loop [1,3,16,17] zur))) (.seq (sr [1,3] [3,26,27,28] [ff 25 1 1,ll 26 25,oA 27 Ln 26,mK 28 0] (.block 2 [] (.loop [3,26,27,28] zus))) (sr [] [2] [mB 2 false] .ret)))))
def fi75:FI:=⟨1,61,c75,[.tmp 2]⟩
theorem ok75:zh Tryz.prog 75 fi75=true:=by kernel_rfl
def zse:LC:=(.seq (sr [0,1,5] [0,1,5,14] [mm 11 5,mm 12 0,oA 13 Ln 12,oB 14 Bl 11 13] (cD 14 .skip (.exit 0))) (.seq (.block 1 [0,1,5] (st [0,1,5] [0,1,5,25] [mm 17 0,mm 18 5,oB 19 (iA 1) 17 18,ll 20 19,mm 21 1,mm 22 5,oB 23 (iA 1) 21 22,ll 24 23,oB 25 Bn 20 24] (cD 25 (sr [] [4] [mB 4 false] .ret) .skip))) (.reg false [0,1,5] [0,1,5] [mm 15 5,oC 16 Ba 15 1,mm 5 16])))
def zuq:LC:=zse
theorem zoO:ELq zuq zse:=fun _ _ _=>rfl
def c76:LC:=(sr [0,1] [0,1] [mB 4 false] (.seq (sr [0,1] [0,1,10] [mm 6 0,oA 7 Ln 6,mm 8 1,oA 9 Ln 8,oB 10 Bn 7 9] (cD 10 (sr [] [4] [mB 4 false] .ret) .skip)) (.seq (sr [0,1] [0,1,5] [mK 5 0] (.block 0 [] (.loop [0,1,5] zuq))) (sr [] [4] [mB 4 true] .ret))))
def fi76:FI:=⟨2,26,c76,[.tmp 4]⟩
theorem ok76:zh Tryz.prog 76 fi76=true:=by kernel_rfl
def c77:LC:=(sr [0] [0,2] [oo 2 (.box 6) [.c (.agg [iZ,iZ,iZ,iZ,nL,(.bool false)])],mK 3 0] (.seq (sr [0,2] [0,2,6] [mm 4 0,oo 5 (pC 124) [.t 4,kk 1,kk 100],oA 6 .not 5] (cD 6 .any .skip)) (sr [0,2] [2,3] [mm 8 0,oo 9 (.bld [iZ,iZ,iZ,iZ,nL,(.bool false)] [(0,1)]) [.t 8],sT 6 2 9,mK 3 0] .ret)))
def fi77:FI:=⟨1,10,c77,[.cell 2 true 6,.tmp 3]⟩
theorem ok77:zh Tryz.prog 77 fi77=true:=by kernel_rfl
def c78:LC:=(sr [0,1] [1,2,4] [oA 2 (.box 6) 0,oo 4 (.box 6) [.c (.agg [iZ,iZ,iZ,iZ,nL,(.bool false)])],mK 5 0] (sr [1,2,4] [4,5] [oA 6 (Lt 6) 2,mm 7 1,oo 8 (.bld [iZ] [(0,1)]) [.t 7],oA 9 (.clo 126 1) 8,oB 10 (.call 125) 6 9,oA 11 (.ext 0) 10,oA 12 (.ext 1) 10,sT 6 4 11,mm 5 12] .ret))
def fi78:FI:=⟨2,13,c78,[.cell 4 true 6,.tmp 5]⟩
theorem ok78:zh Tryz.prog 78 fi78=true:=by kernel_rfl
def c83:LC:=(sr [0,1] [1,2,4] [oA 2 (.box 6) 0,oo 4 (.box 6) [.c (.agg [iZ,iZ,iZ,iZ,nL,(.bool false)])],mK 5 0] (.seq (sr [1,2,4] [1,2,4,6] [oA 7 (Lt 6) 2,oA 8 (pC 56) 7,mm 6 8] (sr [1,2,4,6] [1,2,4,6,10] [mm 9 6,oC 10 Bn 9 0] (cD 10 (sr [4,6] [4,5] [oo 11 (.bld [iZ,iZ,iZ,iZ,nL,(.bool false)] []) [],mm 12 6,sT 6 4 11,mm 5 12] .ret) .skip))) (.seq (sr [1,2,4] [1,2,4,14] [mm 13 1,oC 14 Bl 13 1] (cD 14 (sr [4] [4,5] [oo 15 (.bld [iZ,iZ,iZ,iZ,nL,(.bool false)] []) [],sT 6 4 15,mK 5 2] .ret) .skip)) (.seq (sr [1,2,4] [1,2,4,17] [ff 16 5 2,ll 17 16] (cD 17 (sr [4] [4,5] [oo 18 (.bld [iZ,iZ,iZ,iZ,nL,(.bool false)] []) [],sT 6 4 18,mK 5 19] .ret) .skip)) (.seq (sr [1,2,4] [1,2,4,28] [mm 19 1,ff 20 3 2,ll 21 20,ff 22 0 2,ll 23 22,oB 24 Ba 21 23,ff 25 1 2,ll 26 25,oB 27 (.bin .sub) 24 26,oB 28 Bg 19 27] (cD 28 (sr [4] [4,5] [oo 29 (.bld [iZ,iZ,iZ,iZ,nL,(.bool false)] []) [],sT 6 4 29,mK 5 18] .ret) .skip)) (.seq (sr [1,2,4] [1,2,4,34] [ff 30 1 2,ll 31 30,mm 32 1,oB 33 Ba 31 32,oC 34 Bg 33 1099511627776] (cD 34 (sr [4] [4,5] [oo 35 (.bld [iZ,iZ,iZ,iZ,nL,(.bool false)] []) [],sT 6 4 35,mK 5 4] .ret) .skip)) (sr [1,2,4] [2,4] [ff 36 1 2,ll 37 36,mm 38 1,oB 39 Ba 37 38,ff 40 1 2,sT 1 40 39] (sr [2,4] [4,5] [oA 41 (Lt 6) 2,sT 6 4 41,mK 5 0] .ret))))))))
def fi83:FI:=⟨2,42,c83,[.cell 4 true 6,.tmp 5]⟩
theorem ok83:zh Tryz.prog 83 fi83=true:=by kernel_rfl
def c84:LC:=(sr [0] [1] [oA 1 (.box 5) 0,mB 2 false] (sr [1] [1,3] [oA 4 (Lt 5) 1,oA 5 (pC 131) 4,mm 3 5] (sr [1,3] [2] [mm 6 3,oC 7 Bg 6 40,mm 8 7,sA 11 8 [mm 9 3,oC 10 (.bin .leq) 9 100] 10,mm 12 11,sO 19 12 [mm 13 3,oC 14 (.bin .leq) 13 40,mm 15 14,sA 18 15 [oA 16 (Lt 5) 1,oA 17 (pC 132) 16] 17] (.t 18),mm 2 19] .ret)))
def fi84:FI:=⟨1,20,c84,[.tmp 2]⟩
theorem ok84:zh Tryz.prog 84 fi84=true:=by kernel_rfl
abbrev zs3:LC:=(.reg false [6,8,9,10] [6,10] [oA 92 (Lt 8) 8,oA 93 (Lt 3) 9,ff 94 6 10,ll 95 94,ff 96 7 10,ll 97 96,oo 98 (pC 135) [.t 92,.t 93,.t 95,.t 97],mm 91 98,oA 99 (.ext 0) 91,oA 100 (.ext 1) 91,oA 101 (.ext 2) 91,ff 102 0 10,sT 3 102 99,ff 103 3 10,sT 1 103 100,ff 104 8 10,sT 1 104 101])
def zwk:LC:=zs3
@[simp] theorem evy85_0:ELq zwk zs3:=fun _ _ _=>rfl
abbrev zs2:LC:=(sr [6,8,9,10,14] [6,8,9,10,73] [oA 74 (Lt 6) 14,oA 75 (pC 133) 74,mm 73 75] (cD 73 (.reg false [6,8,9,10] [6,8,9,10,11] [mB 11 true]) (sr [6] [6,7] [oo 61 (.bld [nL,iZ,(.bool false),nL,(.bool false),(.bool false),iZ,iZ,iZ] []) [],sT 9 6 61,mB 7 false] .ret)))
def zwj:LC:=zs2
@[simp] theorem evy85_1:ELq zwj zs2:=fun _ _ _=>rfl
abbrev zs1:LC:=(sr [2,3,4,6,8,9,10,11] [2,3,4,6,8,9,10,11,12] [oA 43 (Lt 8) 8,oA 44 (Lt 3) 9,oB 45 (pC 95) 43 44,mm 42 45,oA 46 (.ext 0) 42,oA 47 (.ext 1) 42,mm 12 46,mm 13 47] (sr [2,3,4,6,8,9,10,11,12] [2,3,4,6,8,9,10,11] [mm 48 12,oC 49 (iA 1) 48 0,ll 50 49,ff 51 6 10,sT 1 51 50] (st [2,3,4,6,8,9,10,11] [6,8,9,10,11,14] [ff 52 1 4,ll 53 52,oA 54 (Lt 2) 3,mm 55 2,ff 56 6 10,ll 57 56,oo 58 (pC 69) [.t 54,.t 55,.t 57],oB 59 (iA 6) 53 58,oA 60 (Lt 6) 59,oo 14 (.box 6) [.c (.agg [iZ,iZ,iZ,iZ,nL,(.bool false)])],sT 6 14 60] (.block 0 [6,8,9,10,11] (sr [6,8,9,10,11,14] [6,8,9,10,11,14,62] [ff 63 4 14,ll 64 63,oA 65 Ln 64,oC 66 Bg 65 0,mm 62 66] (cD 62 (.reg true [6,8,9,10,11,14] [6,8,9,10,11] [ff 67 4 14,ll 68 67,oC 69 (iA 1) 68 0,ll 70 69,ff 71 5 10,.op none (.storeA 1) [.t 71,.c (.bool true),.t 67,.t 68,.t 69],ff 72 7 10,sT 1 72 70]) zwj))))))
def zwi:LC:=zs1
@[simp] theorem evy85_2:ELq zwi zs1:=fun _ _ _=>rfl
def c85:LC:=(sr [0,1,2] [2,3,4,6] [oA 3 (.box 2) 0,oA 4 (.box 4) 1,oo 6 (.box 9) [.c (.agg [nL,iZ,(.bool false),nL,(.bool false),(.bool false),iZ,iZ,iZ])],mB 7 false] (.seq (.hol [0] (.reg true [2,3,4,6] [2,3,4,6,8,9] [ff 15 0 3,ll 16 15,mm 17 2,oB 18 (iA 8) 16 17,oA 19 (Lt 8) 18,ff 20 0 4,ll 21 20,mm 22 2,oB 23 (iA 3) 21 22,oA 24 (Lt 3) 23,oo 8 (.boxH 0 8) [.c (.agg [iZ,iZ,iZ,iZ,(.str []),iZ,nL,nL])],oo 9 (.box 3) [.c (.agg [nL,iZ,(.bool false)])],.op none (.storeA 8) [.t 8,.t 19,.t 20,.t 21,.t 23],sT 3 9 24])) (.seq (sr [2,3,4,6,8,9] [2,3,4,6,8,9,26] [ff 25 2 9,ll 26 25] (cD 26 (sr [6] [6,7] [oo 27 (.bld [nL,iZ,(.bool false),nL,(.bool false),(.bool false),iZ,iZ,iZ] []) [],sT 9 6 27,mB 7 false] .ret) .skip)) (sr [2,3,4,6,8,9] [2,3,4,6,8,9,10] [oo 28 (.bld [nL,iZ,(.bool false),nL,(.bool false),(.bool false),iZ,iZ,iZ] [(6,1)]) [.c (.int .i64 (-1))],oo 10 (.box 9) [.c (.agg [nL,iZ,(.bool false),nL,(.bool false),(.bool false),iZ,iZ,iZ])],sT 9 10 28] (sr [2,3,4,6,8,9,10] [2,3,4,6,8,9,10,11] [mB 11 false] (.seq (sr [2,3,4,6,8,9,10,11] [2,3,4,6,8,9,10,11,31] [ff 29 0 8,ll 30 29,oC 31 Be 30 1] (cD 31 (.reg false [4,6,8,9,10] [6,8,9,10,11] [ff 32 3 4,ll 33 32,mm 34 33,sO 41 34 [ff 35 1 9,ll 36 35,ff 37 7 8,ll 38 37,oA 39 Ln 38,oB 40 Be 36 39] (.t 40),mm 11 41]) zwi)) (.seq (sr [6,8,9,10,11] [6,8,9,10,76] [mm 76 11] (cD 76 (.reg false [6,8,9,10] [6,10] [oA 78 (Lt 8) 8,oA 79 (Lt 3) 9,ff 80 6 10,ll 81 80,oo 82 (pC 134) [.t 78,.t 79,.t 81],mm 77 82,oA 83 (.ext 0) 77,oA 84 (.ext 1) 77,oA 85 (.ext 2) 77,oA 86 (.ext 3) 77,ff 87 0 10,sT 3 87 83,ff 88 3 10,sT 1 88 84,ff 89 4 10,sT 1 89 85,ff 90 8 10,sT 1 90 86]) zwk)) (sr [6,10] [6,7] [oA 105 (Lt 9) 10,sT 9 6 105,mB 7 true] .ret))))))))
def fi85:FI:=⟨3,106,c85,[.cell 6 true 9,.tmp 7]⟩
theorem ok85:zh Tryz.prog 85 fi85=true:=by kernel_rfl
def zpg:LC:=(sr [2,4,5,12,13,14] [2,4,5,12,13,14,15] [oB 15 Bl 14 13] (.seq (cD 15 .skip (.exit 0)) (.seq (.block 1 [2,4,5,12,13,14] (sr [2,4,5,12,13,14] [2,4,5,9,10,12,13,14] [mm 16 14,oB 17 (iA 1) 12 14,ll 18 17,mm 9 16,mm 10 18] (st [2,4,5,9,10,12,13,14] [2,4,5,12,13,14,30] [mm 19 10,oA 20 Ln 19,ff 21 1 5,ll 22 21,oA 23 (Lt 2) 4,mm 24 2,mm 25 9,oo 26 (pC 71) [.t 23,.t 24,.t 25],oB 27 (iA 6) 22 26,oA 28 (Lt 6) 27,oA 29 (pC 136) 28,oB 30 Bg 20 29] (cD 30 (sr [] [8] [mB 8 false] .ret) .skip)))) (.reg false [2,4,5,12,13,14] [2,4,5,12,13,14] [oC 31 Ba 14 1,mm 14 31]))))
def zup:LC:=zpg
theorem zjP:ELq zup zpg:=fun _ _ _=>rfl
def c86:LC:=(sr [0,1,2,3] [2,4,5,7] [oA 4 (.box 2) 0,oA 5 (.box 4) 1,oA 7 (.box 9) 3,mB 8 false] (.seq (sr [2,4,5,7] [2,4,5,12,13,14] [ff 11 3 7,ll 12 11,oA 13 Ln 12,mK 14 0] (.block 0 [] (.loop [2,4,5,12,13,14] zup))) (sr [] [8] [mB 8 true] .ret)))
def fi86:FI:=⟨4,32,c86,[.tmp 8]⟩
theorem ok86:zh Tryz.prog 86 fi86=true:=by kernel_rfl
def c87:LC:=(sr [0] [1] [oA 1 (.box 6) 0,mK 2 0] (.seq (sr [1] [1,9] [oA 3 (Lt 6) 1,oA 4 (pC 56) 3,oC 5 Bn 4 0,mm 6 5,sO 9 6 [ff 7 5 1,ll 8 7] (.t 8)] (cD 9 (sr [] [2] [mK 2 0] .ret) .skip)) (sr [1] [2] [ff 10 1 1,ll 11 10,ff 12 2 1,ll 13 12,oB 14 (.bin .sub) 11 13,mm 2 14] .ret)))
def fi87:FI:=⟨1,15,c87,[.tmp 2]⟩
theorem ok87:zh Tryz.prog 87 fi87=true:=by kernel_rfl
def c88:LC:=(sr [0] [1,2] [oA 1 (.box 6) 0,oo 2 (.box 6) [.c (.agg [iZ,iZ,iZ,iZ,nL,(.bool false)])],mK 3 0,mK 4 0] (.seq (sr [1,2] [1,2,5] [oA 8 (Lt 6) 1,oA 9 (pC 137) 8,mm 5 9] (sr [1,2,5] [1,2,5,11] [mm 10 5,oC 11 Bn 10 0] (cD 11 (sr [2,5] [2,3,4] [oo 12 (.bld [iZ,iZ,iZ,iZ,nL,(.bool false)] []) [],mm 13 5,sT 6 2 12,mK 3 0,mm 4 13] .ret) .skip))) (.seq (sr [1,2] [1,2,17] [ff 14 4 1,ll 15 14,oA 16 Ln 15,oC 17 Be 16 0] (cD 17 (.seq (sr [1,2] [2,19] [ff 18 5 1,ll 19 18] (cD 19 (sr [2] [2,3,4] [oo 20 (.bld [iZ,iZ,iZ,iZ,nL,(.bool false)] []) [],sT 6 2 20,mK 3 0,mK 4 19] .ret) .skip)) (sr [2] [2,3,4] [oo 21 (.bld [iZ,iZ,iZ,iZ,nL,(.bool false)] []) [],sT 6 2 21,mK 3 0,mK 4 23] .ret)) .skip)) (sr [1,2] [1,2,6] [ff 22 4 1,ll 23 22,oC 24 (iA 1) 23 0,ll 25 24,mm 6 25] (sr [1,2,6] [1,2,6,7] [ff 26 4 1,ll 27 26,oA 28 Ln 27,oC 29 (.bin .sub) 28 1,oo 30 (.mksl 1 iZ) [.t 29,.t 29],mm 7 30] (sr [1,2,6,7] [1,2,6,7] [mm 31 7,ff 32 4 1,ll 33 32,oC 34 (.slc false false 1 true false) 33 1,oB 35 .cpy 31 34] (sr [1,2,6,7] [1,2,6] [mm 36 7,ff 37 4 1,sT 1 37 36] (sr [1,2,6] [1,2,6] [ff 38 3 1,ll 39 38,oC 40 Ba 39 1,ff 41 3 1,sT 1 41 40] (sr [1,2,6] [2,3,4] [oA 42 (Lt 6) 1,mm 43 6,sT 6 2 42,mm 3 43,mK 4 0] .ret)))))))))
def fi88:FI:=⟨1,44,c88,[.cell 2 true 6,.tmp 3,.tmp 4]⟩
theorem ok88:zh Tryz.prog 88 fi88=true:=by kernel_rfl
def c89:LC:=(sr [0,1] [1,2,4] [oA 2 (.box 6) 0,oo 4 (.box 6) [.c (.agg [iZ,iZ,iZ,iZ,nL,(.bool false)])],mK 5 0] (sr [1,2,4] [4,5] [oA 6 (Lt 6) 2,mm 7 1,oo 8 (.bld [iZ] [(0,1)]) [.t 7],oA 9 (.clo 138 1) 8,oB 10 (.call 125) 6 9,oA 11 (.ext 0) 10,oA 12 (.ext 1) 10,sT 6 4 11,mm 5 12] .ret))
def fi89:FI:=⟨2,13,c89,[.cell 4 true 6,.tmp 5]⟩
theorem ok89:zh Tryz.prog 89 fi89=true:=by kernel_rfl
def c90:LC:=(sr [0] [1,2] [oA 1 (.box 6) 0,oo 2 (.box 6) [.c (.agg [iZ,iZ,iZ,iZ,nL,(.bool false)])],mK 3 0] (sr [1,2] [2,3] [oA 4 (Lt 6) 1,oo 5 (.bld [iZ] []) [],oA 6 (.clo 139 1) 5,oB 7 (.call 125) 4 6,oA 8 (.ext 0) 7,oA 9 (.ext 1) 7,sT 6 2 8,mm 3 9] .ret))
def fi90:FI:=⟨1,10,c90,[.cell 2 true 6,.tmp 3]⟩
theorem ok90:zh Tryz.prog 90 fi90=true:=by kernel_rfl
abbrev zs0:LC:=(sr [2,3,4,5,8,75] [2,3,4,5,8,167] [oC 168 Be 75 9,mm 167 168] (cD 167 (sr [2,3,4,5,8] [8,9,10] [oA 169 (Lt 8) 4,oA 170 (Lt 3) 5,mm 171 2,mm 172 3,oo 173 (pC 142) [.t 169,.t 170,.t 171,.t 172],oA 174 (.ext 0) 173,oA 175 (.ext 1) 173,oA 176 (.ext 2) 173,sT 3 8 174,mm 9 175,mm 10 176] .ret) .skip))
def zwh:LC:=zs0
@[simp] theorem evy91_0:ELq zwh zs0:=fun _ _ _=>rfl
abbrev zsZ:LC:=(sr [2,3,4,5,8,75] [2,3,4,5,8,75,156] [oC 157 Be 75 8,mm 156 157] (cD 156 (sr [2,3,4,5,8] [3,4,5,8] [mm 158 2,oo 159 (.bin .sub) [kk 1,.t 158],ff 160 1 5,sT 1 160 159] (st [3,4,5,8] [8,9,10] [oA 161 (Lt 3) 5,oA 162 (Lt 8) 4,mm 163 3,oo 164 (.bsl true 1 1 iZ [0]) [.t 163],oo 165 (.bsl true 1 0 iZ []) [],oo 166 (pC 141) [.t 162,.t 164,.t 165],sT 3 8 161,mm 9 166,mK 10 0] .ret)) zwh))
def zwg:LC:=zsZ
@[simp] theorem evy91_1:ELq zwg zsZ:=fun _ _ _=>rfl
abbrev zsY:LC:=(sr [2,3,4,5,8,75] [2,3,4,5,8,75,116] [oC 117 Be 75 4,mm 116 117] (cD 116 (sr [3,4,5,8] [4,5,8,14] [oo 118 (.bsl false 1 0 iZ []) [],ff 119 0 5,ll 120 119,oB 121 (.app 1) 118 120,mm 122 3,oo 123 (.bsl true 1 1 iZ [0]) [.t 122],oB 124 (.app 1) 121 123,mm 14 124] (.seq (sr [4,5,8,14] [4,5,8,14,129] [mm 125 14,oA 126 Ln 125,ff 127 1 4,ll 128 127,oB 129 Bl 126 128] (cD 129 (sr [4,5,8,14] [4,5,8] [mm 130 14,ff 131 0 5,sT 1 131 130] (st [4,5,8] [8,9,10] [oA 132 (Lt 3) 5,oA 133 (Lt 8) 4,oo 134 (.bsl true 1 0 iZ []) [],oo 135 (.bsl true 1 0 iZ []) [],oo 136 (pC 141) [.t 133,.t 134,.t 135],sT 3 8 132,mm 9 136,mK 10 0] .ret)) .skip)) (sr [4,5,8,14] [4,5,8,15,16] [ff 138 1 4,ll 139 138,mm 140 14,oB 141 (.pubcall 128) 139 140,mm 137 141,oA 142 (.ext 0) 137,oA 143 (.ext 1) 137,mm 15 142,mm 16 143] (.seq (sr [4,5,8,15,16] [4,5,8,15,16,145] [mm 144 16,oC 145 Bn 144 0] (cD 145 (sr [8,16] [8,9,10] [oo 146 (.bld [nL,iZ,(.bool false)] []) [],oo 147 (.bsl true 1 0 nL []) [],mm 148 16,sT 3 8 146,mm 9 147,mm 10 148] .ret) .skip)) (sr [4,5,8,15] [4,5,8,15] [oo 149 (.bsl true 1 0 iZ []) [],ff 150 0 5,sT 1 150 149] (st [4,5,8,15] [8,9,10] [oA 151 (Lt 3) 5,oA 152 (Lt 8) 4,mm 153 15,oo 154 (.bsl true 1 0 iZ []) [],oo 155 (pC 141) [.t 152,.t 153,.t 154],sT 3 8 151,mm 9 155,mK 10 0] .ret)))))) zwg))
def zwf:LC:=zsY
@[simp] theorem evy91_2:ELq zwf zsY:=fun _ _ _=>rfl
abbrev zsX:LC:=(sr [2,3,4,5,8,75] [2,3,4,5,8,75,94] [oC 95 Be 75 6,mm 94 95] (cD 94 (.seq (sr [3,4,5,8] [3,4,5,8,100] [ff 96 1 5,ll 97 96,ff 98 1 4,ll 99 98,oB 100 Be 97 99] (cD 100 (st [4,5,8] [8,9,10] [oA 101 (Lt 3) 5,oA 102 (Lt 8) 4,oo 103 (.bsl true 1 0 iZ []) [],oo 104 (.bsl true 1 0 iZ []) [],oo 105 (pC 141) [.t 102,.t 103,.t 104],sT 3 8 101,mm 9 105,mK 10 0] .ret) .skip)) (sr [3,4,5,8] [3,4,5,8] [ff 106 1 5,ll 107 106,oC 108 Ba 107 1,ff 109 1 5,sT 1 109 108] (st [3,4,5,8] [8,9,10] [oA 110 (Lt 3) 5,oA 111 (Lt 8) 4,mm 112 3,oo 113 (.bsl true 1 1 iZ [0]) [.t 112],oo 114 (.bsl true 1 0 iZ []) [],oo 115 (pC 141) [.t 111,.t 113,.t 114],sT 3 8 110,mm 9 115,mK 10 0] .ret))) zwf))
def zwe:LC:=zsX
@[simp] theorem evy91_3:ELq zwe zsX:=fun _ _ _=>rfl
def c91:LC:=(sr [0,1,2,3] [2,3,4,5,8] [oA 4 (.box 8) 0,oA 5 (.box 3) 1,oo 8 (.box 3) [.c (.agg [nL,iZ,(.bool false)])],oo 9 .mv [.c nL],mK 10 0] (sr [2,3,4,5,8] [2,3,4,5,8,11,12] [oA 19 (Lt 8) 4,oA 20 (Lt 3) 5,oB 21 (pC 55) 19 20,mm 18 21,oA 22 (.ext 0) 18,oA 23 (.ext 1) 18,mm 11 22,mm 12 23] (.seq (sr [2,3,4,5,8,11,12] [2,3,4,5,8,11,12,25] [mm 24 12,oC 25 Bn 24 0] (cD 25 (sr [8,12] [8,9,10] [oo 26 (.bld [nL,iZ,(.bool false)] []) [],oo 27 (.bsl true 1 0 nL []) [],mm 28 12,sT 3 8 26,mm 9 27,mm 10 28] .ret) .skip)) (sr [2,3,4,5,8,11] [2,3,4,5,8,11,13] [ff 29 0 4,ll 30 29,oC 31 Be 30 1,mm 13 31] (.seq (sr [2,3,4,5,8,11,13] [2,3,4,5,8,13,59] [ff 32 2 5,ll 33 32,mm 34 33,sO 48 34 [mm 35 13,mm 36 35,sA 47 36 [mm 37 2,oo 38 Bn [.t 37,.c (.int .i64 (-1))],mm 39 38,sO 46 39 [ff 40 1 5,ll 41 40,ff 42 7 4,ll 43 42,oA 44 Ln 43,oB 45 Be 41 44] (.t 45)] 46] (.t 47),mm 49 48,sO 59 49 [mm 50 13,oA 51 .not 50,mm 52 51,sA 58 52 [mm 53 11,oC 54 (iA 1) 53 0,ll 55 54,mm 56 2,oB 57 Bn 55 56] 57] (.t 58)] (cD 59 (sr [8] [8,9,10] [oo 60 (.bld [nL,iZ,(.bool false)] []) [],oo 61 (.bsl true 1 0 nL []) [],sT 3 8 60,mm 9 61,mK 10 17] .ret) .skip)) (.seq (sr [2,3,4,5,8,13] [2,3,4,5,8,71] [mm 62 3,oA 63 (pC 140) 62,oA 64 .not 63,mm 65 64,sO 71 65 [mm 66 13,mm 67 66,sA 70 67 [mm 68 3,oC 69 Bn 68 0] 69] (.t 70)] (cD 71 (sr [8] [8,9,10] [oo 72 (.bld [nL,iZ,(.bool false)] []) [],oo 73 (.bsl true 1 0 nL []) [],sT 3 8 72,mm 9 73,mK 10 2] .ret) .skip)) (.seq (sr [2,3,4,5,8] [2,3,4,5,8,75] [ff 74 0 4,ll 75 74] (.block 0 [3,4,5,8] (sr [2,3,4,5,8,75] [2,3,4,5,8,75,76] [oC 77 Be 75 1,mm 76 77] (cD 76 (sr [4,5,8] [4,5,8] [ff 78 1 5,ll 79 78,oC 80 Ba 79 1,ff 81 1 5,sT 1 81 80] (st [4,5,8] [8,9,10] [oA 82 (Lt 3) 5,oA 83 (Lt 8) 4,ff 84 7 4,ll 85 84,ff 86 1 5,ll 87 86,oC 88 (.bin .sub) 87 1,oB 89 (iA 1) 85 88,ll 90 89,oo 91 (.bsl true 1 1 iZ [0]) [.t 90],oo 92 (.bsl true 1 0 iZ []) [],oo 93 (pC 141) [.t 83,.t 91,.t 92],sT 3 8 82,mm 9 93,mK 10 0] .ret)) zwe)))) (sr [3,4,5,8] [4,5,8,12,17] [oA 178 (Lt 8) 4,mm 179 3,oo 180 (.bsl true 1 1 iZ [0]) [.t 179],oo 181 (.bsl true 1 0 iZ []) [],oo 182 (pC 130) [.t 178,.t 180,.t 181],mm 177 182,oA 183 (.ext 0) 177,oA 184 (.ext 1) 177,mm 17 183,mm 12 184] (.seq (sr [4,5,8,12,17] [4,5,8,12,17,186] [mm 185 12,oC 186 Bn 185 0] (cD 186 (sr [8,12] [8,9,10] [oo 187 (.bld [nL,iZ,(.bool false)] []) [],oo 188 (.bsl true 1 0 nL []) [],mm 189 12,sT 3 8 187,mm 9 188,mm 10 189] .ret) .skip)) (st [4,5,8,17] [8,9,10] [oA 190 (Lt 3) 5,oA 191 (Lt 8) 4,mm 192 17,oC 193 (iA 1) 192 0,ll 194 193,mm 195 17,oC 196 (iA 1) 195 1,ll 197 196,oo 198 (pC 141) [.t 191,.t 194,.t 197],sT 3 8 190,mm 9 198,mK 10 0] .ret))))))))))
def fi91:FI:=⟨4,199,c91,[.cell 8 true 3,.tmp 9,.tmp 10]⟩
theorem ok91:zh Tryz.prog 91 fi91=true:=by kernel_rfl
abbrev zsW:LC:=(sr [2,3,4,6,13,69] [2,3,4,6,13,102] [oC 103 Be 69 9,mm 102 103] (cD 102 (sr [2,3,4,6,13] [2,3,4,6,13] [ff 104 1 4,ll 105 104,mm 106 2,oB 107 Ba 105 106,oC 108 Ba 107 1,ff 109 1 4,sT 1 109 108] (sr [2,3,4,6,13] [2,3,4,6,13] [ff 110 1 4,ll 111 110,oC 112 Be 111 3,ff 113 2 4,sT 1 113 112] (sr [2,3,4,6,13] [3,4,6,13,115] [mm 114 2,oC 115 Be 114 1] (cD 115 (.reg false [3,4,6,13] [3,4,6,13] [oo 116 (.bsl true 1 0 iZ []) [],ff 117 0 4,sT 1 117 116]) .skip)))) (.reg false [3,4,6,13] [3,4,6,13] [ff 70 2 4,.op none (.store 1) [.t 70,.c (.bool true)]])))
def zwd:LC:=zsW
@[simp] theorem evy92_0:ELq zwd zsW:=fun _ _ _=>rfl
abbrev zsV:LC:=(sr [2,3,4,6,13,69] [2,3,4,6,13,69,90] [oC 91 Be 69 8,mm 90 91] (cD 90 (sr [2,3,4,6,13] [2,3,4,6,13,95] [ff 92 0 4,ll 93 92,oA 94 Ln 93,oC 95 Be 94 0] (cD 95 (.reg false [2,3,4,6,13] [3,4,6,13] [mm 96 2,oo 97 (.bsl true 1 1 iZ [0]) [.t 96],ff 98 0 4,sT 1 98 97]) (.reg false [3,4,6,13] [3,4,6,13] [oo 99 (.bsl true 1 2 iZ [0,1]) [kk 0,kk 1],ff 100 0 4,sT 1 100 99,ff 101 2 4,.op none (.store 1) [.t 101,.c (.bool true)]]))) zwd))
def zwc:LC:=zsV
@[simp] theorem evy92_1:ELq zwc zsV:=fun _ _ _=>rfl
def c92:LC:=(sr [0,1,2] [2,3,4,6] [oA 3 (.box 8) 0,oA 4 (.box 3) 1,oo 6 (.box 3) [.c (.agg [nL,iZ,(.bool false)])],oo 7 .mv [.c nL],mB 8 false,mK 9 0] (.seq (sr [2,3,4,6] [2,3,4,6,10] [oA 16 (Lt 8) 3,oA 17 (Lt 3) 4,oB 18 (pC 99) 16 17,mm 10 18] (sr [2,3,4,6,10] [2,3,4,6,10,20] [mm 19 10,oC 20 Bn 19 0] (cD 20 (sr [6,10] [6,7,8,9] [oo 21 (.bld [nL,iZ,(.bool false)] []) [],oo 22 (.bsl true 1 0 nL []) [],mm 23 10,sT 3 6 21,mm 7 22,mB 8 false,mm 9 23] .ret) .skip))) (st [2,3,4,6] [2,3,4,6,11,12] [ff 24 0 3,ll 25 24,oC 26 Be 25 1,ff 27 0 3,ll 28 27,oC 29 Be 28 8,mm 30 29,sO 34 30 [ff 31 0 3,ll 32 31,oC 33 Be 32 9] (.t 33),mm 11 26,mm 12 34] (.seq (sr [2,3,4,6,11,12] [2,3,4,6,12,51] [mm 35 11,mm 36 35,sA 39 36 [mm 37 2,oo 38 Bn [.t 37,.c (.int .i64 (-1))]] 38,mm 40 39,sO 51 40 [mm 41 11,oA 42 .not 41,mm 43 42,sA 50 43 [mm 44 2,oA 45 (Lt 8) 3,oA 46 (pC 64) 45,oC 47 (.bin .sub) 46 1,oo 48 (pC 101) [.t 44,kk 0,.t 47],oA 49 .not 48] 49] (.t 50)] (cD 51 (sr [6] [6,7,8,9] [oo 52 (.bld [nL,iZ,(.bool false)] []) [],oo 53 (.bsl true 1 0 nL []) [],sT 3 6 52,mm 7 53,mB 8 false,mK 9 2] .ret) .skip)) (.seq (sr [2,3,4,6,12] [2,3,4,6,64] [ff 54 2 4,ll 55 54,mm 56 55,sO 64 56 [mm 57 12,mm 58 57,sA 63 58 [oA 59 (Lt 8) 3,oA 60 (Lt 3) 4,mm 61 2,oo 62 (pC 100) [.t 59,.t 60,.t 61]] 62] (.t 63)] (cD 64 (sr [6] [6,7,8,9] [oo 65 (.bld [nL,iZ,(.bool false)] []) [],oo 66 (.bsl true 1 0 nL []) [],sT 3 6 65,mm 7 66,mB 8 false,mK 9 17] .ret) .skip)) (sr [2,3,4,6] [2,3,4,6,13] [oo 67 (.bsl true 1 0 iZ []) [],mm 13 67] (.seq (sr [2,3,4,6,13] [2,3,4,6,13,69] [ff 68 0 3,ll 69 68] (.block 0 [3,4,6,13] (sr [2,3,4,6,13,69] [2,3,4,6,13,69,71] [oC 72 Be 69 4,mm 71 72] (cD 71 (sr [3,4,6] [3,4,6,14,15] [ff 74 1 3,ll 75 74,ff 76 0 4,ll 77 76,oB 78 (pC 128) 75 77,mm 73 78,oA 79 (.ext 0) 73,oA 80 (.ext 1) 73,mm 14 79,mm 15 80] (.seq (sr [3,4,6,14,15] [3,4,6,14,15,82] [mm 81 15,oC 82 Bn 81 0] (cD 82 (sr [6,15] [6,7,8,9] [oo 83 (.bld [nL,iZ,(.bool false)] []) [],oo 84 (.bsl true 1 0 nL []) [],mm 85 15,sT 3 6 83,mm 7 84,mB 8 false,mm 9 85] .ret) .skip)) (.reg false [3,4,6,14] [3,4,6,13] [mm 86 14,oo 87 (.bsl true 1 0 iZ []) [],mm 13 86,ff 88 0 4,sT 1 88 87,ff 89 2 4,.op none (.store 1) [.t 89,.c (.bool true)]]))) zwc)))) (st [3,4,6,13] [6,7,8,9] [oA 118 (Lt 3) 4,oA 119 (Lt 8) 3,mm 120 13,oo 121 (.bsl true 1 0 iZ []) [],oo 122 (pC 141) [.t 119,.t 120,.t 121],ff 123 2 4,ll 124 123,.op none (.storeA 3) [.t 6,.t 118,.t 123],mm 7 122,mm 8 124,mK 9 0] .ret))))))))
def fi92:FI:=⟨3,125,c92,[.cell 6 true 3,.tmp 7,.tmp 8,.tmp 9]⟩
theorem ok92:zh Tryz.prog 92 fi92=true:=by kernel_rfl
def c93:LC:=(sr [0] [1,2] [oA 1 (.box 6) 0,oo 2 (.box 6) [.c (.agg [iZ,iZ,iZ,iZ,nL,(.bool false)])],mK 3 0,mK 4 0] (.seq (sr [1,2] [1,2,5] [oA 7 (Lt 6) 1,oA 8 (pC 56) 7,mm 5 8] (sr [1,2,5] [1,2,5,10] [mm 9 5,oC 10 Bn 9 0] (cD 10 (sr [2,5] [2,3,4] [oo 11 (.bld [iZ,iZ,iZ,iZ,nL,(.bool false)] []) [],mm 12 5,sT 6 2 11,mK 3 0,mm 4 12] .ret) .skip))) (.seq (sr [1,2] [1,2,20] [ff 13 4 1,ll 14 13,oA 15 Ln 14,oC 16 Be 15 0,mm 17 16,sA 20 17 [ff 18 5 1,ll 19 18] 19] (cD 20 (sr [2] [2,3,4] [oo 21 (.bld [iZ,iZ,iZ,iZ,nL,(.bool false)] []) [],sT 6 2 21,mK 3 0,mK 4 19] .ret) .skip)) (.seq (sr [1,2] [1,2,25] [ff 22 4 1,ll 23 22,oA 24 Ln 23,oC 25 Be 24 0] (cD 25 (sr [2] [2,3,4] [oo 26 (.bld [iZ,iZ,iZ,iZ,nL,(.bool false)] []) [],sT 6 2 26,mK 3 0,mK 4 23] .ret) .skip)) (sr [1,2] [1,2,6] [ff 27 4 1,ll 28 27,oC 29 (iA 1) 28 0,ll 30 29,mm 6 30] (sr [1,2,6] [1,2,6] [oo 31 (.bsl false 1 0 iZ []) [],ff 32 4 1,ll 33 32,oC 34 (.slc false false 1 true false) 33 1,oB 35 (.app 1) 31 34,ff 36 4 1,sT 1 36 35] (sr [1,2,6] [1,2,6] [ff 37 3 1,ll 38 37,oC 39 Ba 38 1,ff 40 3 1,sT 1 40 39] (sr [1,2,6] [2,3,4] [oA 41 (Lt 6) 1,mm 42 6,sT 6 2 41,mm 3 42,mK 4 0] .ret))))))))
def fi93:FI:=⟨1,43,c93,[.cell 2 true 6,.tmp 3,.tmp 4]⟩
theorem ok93:zh Tryz.prog 93 fi93=true:=by kernel_rfl
def c94:LC:=(sr [0] [0] [mB 2 false] (sr [0] [2] [mm 3 0,oo 4 (.bin .geq) [.t 3,.c (.int .i64 (-1099511627776))],mm 5 4,sA 8 5 [mm 6 0,oC 7 (.bin .leq) 6 1099511627776] 7,mm 2 8] .ret))
def fi94:FI:=⟨1,9,c94,[.tmp 2]⟩
theorem ok94:zh Tryz.prog 94 fi94=true:=by kernel_rfl
abbrev zsU:LC:=(sr [2,3] [46] [ff 47 0 2,ll 48 47,oC 49 Be 48 9,mm 50 49,sA 60 50 [oA 51 (Lt 8) 2,oA 52 (Lt 3) 3,oo 53 (pC 144) [.t 51,.t 52,kk 0],mm 54 53,sO 59 54 [ff 55 0 3,ll 56 55,oA 57 Ln 56,oC 58 Bg 57 0] (.t 58)] 59,mm 46 60] (cD 46 (sr [] [4,5] [oo 61 (.bsl true 1 1 iZ [0]) [kk 1],mm 4 61,mK 5 0] .ret) .skip))
def zwb:LC:=zsU
@[simp] theorem evy95_0:ELq zwb zsU:=fun _ _ _=>rfl
abbrev zsT:LC:=(sr [2,3] [2,3,39] [ff 40 0 2,ll 41 40,oC 42 Be 41 8,mm 39 42] (cD 39 (sr [3] [4,5] [ff 43 1 3,ll 44 43,oo 45 (.bsl true 1 1 iZ [0]) [.t 44],mm 4 45,mK 5 0] .ret) zwb))
def zwa:LC:=zsT
@[simp] theorem evy95_1:ELq zwa zsT:=fun _ _ _=>rfl
abbrev zsS:LC:=(sr [2,3] [2,3,24] [ff 25 0 2,ll 26 25,oC 27 Be 26 8,mm 28 27,sA 34 28 [oA 29 (Lt 8) 2,oA 30 (Lt 3) 3,ff 31 1 3,ll 32 31,oo 33 (pC 144) [.t 29,.t 30,.t 32]] 33,mm 24 34] (cD 24 (sr [3] [4,5] [ff 35 1 3,ll 36 35,oo 37 (.bin .sub) [kk 1,.t 36],oo 38 (.bsl true 1 1 iZ [0]) [.t 37],mm 4 38,mK 5 0] .ret) zwa))
def zv9:LC:=zsS
@[simp] theorem evy95_2:ELq zv9 zsS:=fun _ _ _=>rfl
def c95:LC:=(sr [0,1] [2,3] [oA 2 (.box 8) 0,oA 3 (.box 3) 1,oo 4 .mv [.c nL],mK 5 0] (.seq (sr [2,3] [2,3,6] [oA 7 (Lt 8) 2,oA 8 (pC 72) 7,mm 6 8] (sr [2,3,6] [2,3,6,10] [mm 9 6,oC 10 Bn 9 0] (cD 10 (sr [6] [4,5] [mm 11 6,oo 4 .mv [.c nL],mm 5 11] .ret) .skip))) (.seq (sr [2,3] [2,3,15] [oA 12 (Lt 8) 2,oA 13 (Lt 3) 3,oB 14 (pC 143) 12 13,oA 15 .not 14] (cD 15 (sr [] [4,5] [oo 4 .mv [.c nL],mK 5 1] .ret) .skip)) (.seq (.block 0 [] (sr [2,3] [2,3,16] [ff 17 2 3,ll 18 17,mm 19 18,sO 23 19 [ff 20 0 2,ll 21 20,oC 22 Be 21 1] (.t 22),mm 16 23] (cD 16 (sr [] [4,5] [oo 4 .mv [.c nL],mK 5 0] .ret) zv9))) (sr [] [4,5] [oo 62 (.bsl true 1 1 iZ [0]) [kk 0],mm 4 62,mK 5 0] .ret)))))
def fi95:FI:=⟨2,63,c95,[.tmp 4,.tmp 5]⟩
theorem ok95:zh Tryz.prog 95 fi95=true:=by kernel_rfl
def c96:LC:=(sr [0,1] [0,1] [mB 4 false] (sr [0,1] [4] [mm 5 0,mm 6 1,oB 7 (.call 145) 5 6,oC 8 (.bin .geq) 7 0,mm 4 8] .ret))
def fi96:FI:=⟨2,9,c96,[.tmp 4]⟩
theorem ok96:zh Tryz.prog 96 fi96=true:=by kernel_rfl
def c97:LC:=(sr [0] [0] [mB 2 false] (sr [0] [2] [mm 3 0,oo 4 (pC 39) [.t 3,.c (.int .i64 (-1099511627776)),kk 1099511627776],oA 5 .not 4,mm 2 5] .ret))
def fi97:FI:=⟨1,6,c97,[.tmp 2]⟩
theorem ok97:zh Tryz.prog 97 fi97=true:=by kernel_rfl
def zpf:LC:=(sr [2,3,8,64,65,66,77,78,79] [2,3,8,64,65,66,77,78,79,80] [oB 80 Bl 79 78] (.seq (cD 80 .skip (.exit 4)) (.seq (.block 5 [2,3,8,64,65,66,77,78,79] (sr [2,3,8,64,65,66,77,78,79] [2,3,8,11,64,65,66,77,78,79] [oB 81 (iA 1) 77 79,ll 82 81,mm 11 82] (st [2,3,8,11,64,65,66,77,78,79] [2,3,8,64,65,66,77,78,79,92] [ff 83 1 3,ll 84 83,oA 85 (Lt 2) 2,mm 86 8,mm 87 11,oo 88 (pC 69) [.t 85,.t 86,.t 87],oB 89 (iA 6) 84 88,oA 90 (Lt 6) 89,oA 91 (pC 133) 90,oA 92 .not 91] (cD 92 (sr [] [4] [mB 4 false] .ret) .skip)))) (.reg false [2,3,8,64,65,66,77,78,79] [2,3,8,64,65,66,77,78,79] [oC 93 Ba 79 1,mm 79 93]))))
def zuo:LC:=zpf
theorem zjO:ELq zuo zpf:=fun _ _ _=>rfl
def zpe:LC:=(sr [2,3,64,65,66] [2,3,64,65,66,67] [oB 67 Bl 66 65] (.seq (cD 67 .skip (.exit 2)) (.seq (.block 3 [2,3,64,65,66] (sr [2,3,64,65,66] [2,3,8,9,64,65,66] [mm 68 66,oB 69 (iA 3) 64 66,oA 70 (Lt 3) 69,oo 9 (.box 3) [.c (.agg [nL,iZ,(.bool false)])],mm 8 68,sT 3 9 70] (st [2,3,8,9,64,65,66] [2,3,8,64,65,66,77,78,79] [ff 71 0 2,ll 72 71,mm 73 8,oB 74 (iA 8) 72 73,oA 75 (Lt 8) 74,oA 76 (Lt 3) 9,oB 77 (pC 146) 75 76,oA 78 Ln 77,mK 79 0] (.block 4 [2,3,64,65,66] (.loop [2,3,8,64,65,66,77,78,79] zuo))))) (.reg false [2,3,64,65,66] [2,3,64,65,66] [oC 94 Ba 66 1,mm 66 94]))))
def zun:LC:=zpe
theorem zjN:ELq zun zpe:=fun _ _ _=>rfl
def zhE:LC:=(sr [2,3,13,14,15] [2,3,13,14,15,16] [oB 16 Bl 15 14] (.seq (cD 16 .skip (.exit 0)) (.seq (.block 1 [2,3,13,14,15] (sr [2,3,13,14,15] [2,3,5,6,13,14,15] [mm 17 15,oB 18 (iA 6) 13 15,oA 19 (Lt 6) 18,oo 6 (.box 6) [.c (.agg [iZ,iZ,iZ,iZ,nL,(.bool false)])],mm 5 17,sT 6 6 19] (sr [2,3,5,6,13,14,15] [2,3,6,7,13,14,15] [ff 20 1 2,ll 21 20,mm 22 5,oB 23 (iA 5) 21 22,oA 24 (Lt 5) 23,oo 7 (.box 5) [.c (.agg [iZ,iZ,iZ,iZ,iZ])],sT 5 7 24] (st [2,3,6,7,13,14,15] [2,3,13,14,15,61] [oA 25 (Lt 6) 6,oA 26 (pC 137) 25,oC 27 Bn 26 0,mm 28 27,sO 34 28 [ff 29 0 6,ll 30 29,ff 31 4 7,ll 32 31,oB 33 Bn 30 32] (.t 33),mm 35 34,sO 46 35 [ff 36 5 6,ll 37 36,ff 38 0 3,ll 39 38,ff 40 0 7,ll 41 40,oB 42 (iA 3) 39 41,ff 43 2 42,ll 44 43,oB 45 (.eqb true) 37 44] (.t 45),mm 47 46,sO 61 47 [ff 48 5 6,ll 49 48,oA 50 .not 49,mm 51 50,sA 60 51 [ff 52 1 6,ll 53 52,ff 54 3 6,ll 55 54,ff 56 0 6,ll 57 56,oB 58 Ba 55 57,oB 59 Bn 53 58] 59] (.t 60)] (cD 61 (sr [] [4] [mB 4 false] .ret) .skip))))) (.reg false [2,3,13,14,15] [2,3,13,14,15] [oC 62 Ba 15 1,mm 15 62]))))
def zqW:LC:=zhE
theorem zdv:ELq zqW zhE:=fun _ _ _=>rfl
def c98:LC:=(sr [0,1] [2,3] [oA 2 (.box 2) 0,oA 3 (.box 4) 1,mB 4 false] (.seq (sr [2,3] [2,3,13,14,15] [ff 12 1 3,ll 13 12,oA 14 Ln 13,mK 15 0] (.block 0 [2,3] (.loop [2,3,13,14,15] zqW))) (.seq (sr [2,3] [2,3,64,65,66] [ff 63 0 3,ll 64 63,oA 65 Ln 64,mK 66 0] (.block 2 [] (.loop [2,3,64,65,66] zun))) (sr [] [4] [mB 4 true] .ret))))
def fi98:FI:=⟨2,95,c98,[.tmp 4]⟩
theorem ok98:zh Tryz.prog 98 fi98=true:=by kernel_rfl
def c99:LC:=(sr [0,1] [2,3] [oA 2 (.box 8) 0,oA 3 (.box 3) 1,mK 4 0] (.seq (sr [2,3] [2,3,5] [oA 6 (Lt 8) 2,oA 7 (pC 61) 6,mm 5 7] (sr [2,3,5] [2,3,5,9] [mm 8 5,oC 9 Bn 8 0] (cD 9 (sr [5] [4] [mm 10 5,mm 4 10] .ret) .skip))) (.seq (sr [2,3] [14] [oA 11 (Lt 8) 2,oA 12 (Lt 3) 3,oB 13 (pC 147) 11 12,oA 14 .not 13] (cD 14 (sr [] [4] [mK 4 1] .ret) .skip)) (sr [] [4] [mK 4 0] .ret))))
def fi99:FI:=⟨2,15,c99,[.tmp 4]⟩
theorem ok99:zh Tryz.prog 99 fi99=true:=by kernel_rfl
def zje:LC:=(.seq (sr [2,4,7] [2,4,7,25] [mm 21 7,ff 22 0 4,ll 23 22,oA 24 Ln 23,oB 25 Bl 21 24] (cD 25 .skip (.exit 0))) (.seq (.block 1 [2,4,7] (sr [2,4,7] [2,4,7,34] [ff 28 0 4,ll 29 28,mm 30 7,oB 31 (iA 1) 29 30,ll 32 31,mm 33 2,oB 34 Be 32 33] (cD 34 (sr [] [6] [mB 6 true] .ret) .skip))) (.reg false [2,4,7] [2,4,7] [mm 26 7,oC 27 Ba 26 1,mm 7 27])))
def zk0:LC:=zje
theorem zhv:ELq zk0 zje:=fun _ _ _=>rfl
def c100:LC:=(sr [0,1,2] [2,3,4] [oA 3 (.box 8) 0,oA 4 (.box 3) 1,mB 6 false] (.seq (sr [2,3,4] [2,4,10] [ff 8 0 3,ll 9 8,oC 10 Be 9 9] (cD 10 (sr [2,4] [6] [ff 11 1 4,ll 12 11,oC 13 Be 12 3,mm 14 13,sO 20 14 [ff 15 1 4,ll 16 15,mm 17 2,oC 18 Ba 17 1,oB 19 Be 16 18] (.t 19),mm 6 20] .ret) .skip)) (.seq (sr [2,4] [2,4,7] [mK 7 0] (.block 0 [] (.loop [2,4,7] zk0))) (sr [] [6] [mB 6 false] .ret))))
def zma:FI:=⟨3,35,c100,[.tmp 6]⟩
theorem zAG:zh Tryz.prog 100 zma=true:=by kernel_rfl
def c101:LC:=(sr [0,1,2] [0,1,2] [mB 6 false] (sr [0,1,2] [6] [mm 7 0,mm 8 1,oB 9 (.bin .geq) 7 8,mm 10 9,sA 14 10 [mm 11 0,mm 12 2,oB 13 (.bin .leq) 11 12] 13,mm 6 14] .ret))
def zrY:FI:=⟨3,15,c101,[.tmp 6]⟩
theorem zAF:zh Tryz.prog 101 zrY=true:=by kernel_rfl
def c102:LC:=(sr [0] [0] [mK 2 0] (.seq (sr [0] [3] [mm 3 0] (.block 0 [] (.seq (sr [3] [3,4] [oC 5 Be 3 2,mm 4 5] (cD 4 .skip (.reg false [3] [3,4] [oC 6 Be 3 9,mm 4 6]))) (cD 4 (sr [] [2] [mK 2 1] .ret) (.seq (sr [3] [3,7] [oC 8 Be 3 3,mm 7 8] (cD 7 .skip (.reg false [3] [7] [oC 9 Be 3 7,mm 7 9]))) (cD 7 (sr [] [2] [mK 2 2] .ret) .skip)))))) (sr [] [2] [mK 2 0] .ret)))
def ziL:FI:=⟨1,10,c102,[.tmp 2]⟩
theorem zAE:zh Tryz.prog 102 ziL=true:=by kernel_rfl
def c103:LC:=(sr [0] [1] [oA 1 (.box 5) 0,mB 2 false] (sr [1] [2] [ff 3 0 1,ll 4 3,oC 5 Be 4 0,mm 6 5,sA 10 6 [ff 7 1 1,ll 8 7,oC 9 Be 8 0] 9,mm 11 10,sA 15 11 [ff 12 2 1,ll 13 12,oo 14 Be [.t 13,.c (.str [])]] 14,mm 16 15,sA 20 16 [ff 17 3 1,ll 18 17,oC 19 Be 18 0] 19,mm 21 20,sA 26 21 [ff 22 4 1,ll 23 22,oA 24 Ln 23,oC 25 Be 24 0] 25,mm 2 26] .ret))
def zrX:FI:=⟨1,27,c103,[.tmp 2]⟩
theorem zAD:zh Tryz.prog 103 zrX=true:=by kernel_rfl
def zjd:LC:=(.seq (sr [0,3] [0,3,10] [mm 7 3,mm 8 0,oA 9 Ln 8,oB 10 Bl 7 9] (cD 10 .skip (.exit 0))) (.seq (.block 1 [0,3] (sr [0,3] [0,3,18] [mm 13 0,mm 14 3,oB 15 (iA 1) 13 14,ll 16 15,oA 17 (pC 140) 16,oA 18 .not 17] (cD 18 (sr [] [2] [mK 2 2] .ret) .skip))) (.reg false [0,3] [0,3] [mm 11 3,oC 12 Ba 11 1,mm 3 12])))
def zkZ:LC:=zjd
theorem zhu:ELq zkZ zjd:=fun _ _ _=>rfl
def c104:LC:=(sr [0] [0] [mK 2 0] (.seq (sr [0] [0,6] [mm 4 0,oA 5 Ln 4,oC 6 Bg 5 200] (cD 6 (sr [] [2] [mK 2 4] .ret) .skip)) (.seq (sr [0] [0,3] [mK 3 0] (.block 0 [] (.loop [0,3] zkZ))) (sr [] [2] [mK 2 0] .ret))))
def zl9:FI:=⟨1,19,c104,[.tmp 2]⟩
theorem zAC:zh Tryz.prog 104 zl9=true:=by kernel_rfl
def zfT:LC:=(.seq (sr [1,4,5] [1,4,5,20] [mm 17 5,mm 18 4,oA 19 Ln 18,oB 20 Bl 17 19] (cD 20 .skip (.exit 0))) (.seq (.block 1 [1,4,5] (sr [1,4,5] [1,4,5,39] [mm 23 4,mm 24 5,oB 25 (iA 1) 23 24,ll 26 25,oo 27 Bn [.t 26,.c (.str [120])],mm 28 27,sA 39 28 [mm 29 4,mm 30 5,oB 31 (iA 1) 29 30,ll 32 31,oo 33 Bn [.t 32,.c (.str [121])],mm 34 33,sO 38 34 [ff 35 0 1,ll 36 35,oC 37 Bn 36 9] (.t 37)] 38] (cD 39 (sr [] [2] [mK 2 5] .ret) .skip))) (.reg false [1,4,5] [1,4,5] [mm 21 5,oC 22 Ba 21 1,mm 5 22])))
def zkY:LC:=zfT
theorem zdS:ELq zkY zfT:=fun _ _ _=>rfl
def c105:LC:=(sr [0] [1] [oA 1 (.box 8) 0,mK 2 0] (.seq (sr [1] [1,3] [ff 8 2 1,oA 9 (Lt 5) 8,oA 10 (pC 148) 9,mm 3 10] (sr [1,3] [1,3,12] [mm 11 3,oC 12 Bn 11 0] (cD 12 (sr [3] [2] [mm 13 3,mm 2 13] .ret) .skip))) (sr [1] [1,4] [ff 14 2 1,oA 15 (Lt 5) 14,oA 16 (pC 149) 15,mm 4 16] (.seq (sr [1,4] [1,4,5] [mK 5 0] (.block 0 [1] (.loop [1,4,5] zkY))) (.seq (st [1] [1,6,7] [ff 41 2 1,oA 42 (Lt 5) 41,oo 43 (pC 151) [kk 0,kk 0],oB 44 (pC 150) 42 43,mm 40 44,oA 45 (.ext 0) 40,oA 46 (.ext 1) 40,mm 6 45,mm 7 46] (sr [1,6,7] [55] [mm 47 7,oC 48 Bn 47 0,mm 49 48,sO 55 49 [mm 50 6,ff 51 0 1,ll 52 51,oA 53 (pC 102) 52,oB 54 Bn 50 53] (.t 54)] (cD 55 (sr [] [2] [mK 2 15] .ret) .skip))) (sr [] [2] [mK 2 0] .ret))))))
def ziK:FI:=⟨1,56,c105,[.tmp 2]⟩
theorem zAB:zh Tryz.prog 105 ziK=true:=by kernel_rfl
def c107:LC:=(sr [0,1] [2,3] [oA 2 (.box 2) 0,oA 3 (.box 2) 1,mK 4 0] (st [2,3] [4] [ff 5 0 2,ll 6 5,ff 7 0 3,ll 8 7,oB 9 (pC 109) 6 8,ff 10 1 2,ll 11 10,ff 12 1 3,ll 13 12,oB 14 (pC 109) 11 13,oo 15 (.bsl true 1 2 iZ [0,1]) [.t 9,.t 14],oA 16 (pC 108) 15,mm 4 16] .ret))
def zvy:FI:=⟨2,17,c107,[.tmp 4]⟩
theorem zAA:zh Tryz.prog 107 zvy=true:=by kernel_rfl
def zpX:LC:=(.reg false [8,52] [8,13] [mm 13 52])
def ztT:LC:=zpX
def zpW:LC:=(.block 5 [] (.reg false [8,13] [] [ll 53 8,mm 54 13,oB 55 (iA 1) 53 54,ll 56 55,oC 57 (.bin .sub) 56 1,oB 58 (iA 1) 53 54,sT 1 58 57]))
def ztS:LC:=zpW
def zxV:LC:=(.seq (sr [0,4,5,6,8,11] [0,4,5,6,8,11,41] [mm 38 11,oA 39 Ln 38,mm 40 0,oB 41 Bl 39 40] (cD 41 .skip (.exit 2))) (.block 3 [0,4,5,6,8,11] (sr [0,4,5,6,8,11] [0,4,5,6,8,11,12] [ll 42 8,oC 43 (.fcall 156) 42 0,mm 12 43] (.seq (sr [0,4,5,6,8,11,12] [0,4,5,6,8,11,12,45] [mm 44 12,oC 45 Bl 44 0] (cD 45 .any .skip)) (sr [0,4,5,6,8,11,12] [0,4,5,6,8,11,12] [ll 46 8,mm 47 12,oB 48 (iA 1) 46 47,.op none (.store 1) [.t 48,.c (.int .i64 (-1))]] (.seq (sr [0,4,5,6,8,11,12] [0,4,5,6,8,11,12,51] [oA 49 (Lt 2) 6,mm 50 12,oB 51 (pC 157) 49 50] (.block 4 [0,4,5,6,8,11,12] (.rng (.t 51) [52] [0,4,5,6,8,11,12] ztT ztS))) (.reg false [0,4,5,6,8,11,12] [0,4,5,6,8,11] [mm 59 11,mm 60 12,oo 61 (.bsl true 1 1 iZ [0]) [.t 60],oB 62 (.app 1) 59 61,mm 11 62])))))))
def zxi:LC:=zxV
def zxU:LC:=(sr [0,4,5,6,8,24,25,26] [0,4,5,6,8,24,25,26,27] [oB 27 Bl 26 25] (.seq (cD 27 .skip (.exit 0)) (.seq (.block 1 [0,4,5,6,8,24,25,26] (sr [0,4,5,6,8,24,25,26] [0,4,5,6,8,10,24,25,26] [oB 28 (iA 2) 24 26,oA 29 (Lt 2) 28,oo 10 (.box 2) [.c (.agg [iZ,iZ])],sT 2 10 29] (.reg false [0,4,5,6,8,10,24,25,26] [0,4,5,6,8,24,25,26] [ll 30 8,ff 31 1 10,ll 32 31,oB 33 (iA 1) 30 32,ll 34 33,oC 35 Ba 34 1,oB 36 (iA 1) 30 32,sT 1 36 35]))) (.reg false [0,4,5,6,8,24,25,26] [0,4,5,6,8,24,25,26] [oC 37 Ba 26 1,mm 26 37]))))
def zxh:LC:=zxU
def c110:LC:=(sr [0,1] [0,1,4,5] [oo 4 .mv [.c nL],mK 5 0] (sr [0,1,4,5] [0,1,4,5,6,7] [mm 15 0,mm 16 1,oB 17 (pC 155) 15 16,mm 14 17,oA 18 (.ext 0) 14,oA 19 (.ext 1) 14,oo 6 (.box 2) [.c (.agg [iZ,nL])],sT 2 6 18,mm 7 19] (.seq (sr [0,1,4,5,6,7] [0,1,4,5,6,21] [mm 20 7,oA 21 .not 20] (cD 21 .any .skip)) (sr [0,1,4,5,6] [0,1,4,5,6,8] [mm 22 0,oo 23 (.mksl 1 iZ) [.t 22,.t 22],oo 8 (.box 1) [.c nL],sT 1 8 23] (.seq (sr [0,1,4,5,6,8] [0,4,5,6,8,24,25,26] [mm 24 1,oA 25 Ln 24,mK 26 0] (.block 0 [0,4,5,6,8] (.loop [0,4,5,6,8,24,25,26] zxh))) (sr [0,4,5,6,8] [0,4,5,6,8,11] [oo 11 .mv [.c nL]] (.seq (.block 2 [11] (.loop [0,4,5,6,8,11] zxi)) (sr [11] [4,5] [mm 63 11,mm 4 63,mK 5 0] .ret))))))))
def zvx:FI:=⟨2,64,c110,[.tmp 4,.tmp 5]⟩
theorem zAz:zh Tryz.prog 110 zvx=true:=by kernel_rfl
def zxT:LC:=(.seq (sr [0,3] [0,3,13] [mm 10 3,mm 11 0,oA 12 Ln 11,oB 13 Bl 10 12] (cD 13 .skip (.exit 0))) (.seq (.block 1 [0,3] (st [0,3] [0,3,25] [mm 16 0,mm 17 3,oB 18 (iA 2) 16 17,oA 19 (Lt 2) 18,mm 20 0,mm 21 3,oC 22 (.bin .sub) 21 1,oB 23 (iA 2) 20 22,oA 24 (Lt 2) 23,oB 25 (.eqs false [0,0]) 19 24] (cD 25 .any .skip))) (.reg false [0,3] [0,3] [mm 14 3,oC 15 Ba 14 1,mm 3 15])))
def zxg:LC:=zxT
def c111:LC:=(sr [0] [0] [oo 2 .mv [.c nL]] (.seq (sr [0] [0,8] [mm 6 0,oA 7 Ln 6,oC 8 Bl 7 2] (cD 8 .any .skip)) (.seq (sr [0] [0,3] [mK 3 1] (.block 0 [0] (.loop [0,3] zxg))) (sr [0] [2] [mm 60 0,mm 2 60] .ret))))
def zvw:FI:=⟨1,61,c111,[.tmp 2]⟩
theorem zAy:zh Tryz.prog 111 zvw=true:=by kernel_rfl
def c112:LC:=(sr [0] [0,2] [oo 2 (.box 8) [.c (.agg [iZ,iZ,iZ,iZ,iZ,nL,.nilf,.nilf])],mB 3 false] (.seq (sr [0,2] [0,2,10] [mm 5 0,oC 6 Bl 5 1,mm 7 6,sO 10 7 [mm 8 0,oC 9 Bg 8 10] (.t 9)] (cD 10 (sr [2] [2,3] [oo 11 (.bld [iZ,iZ,iZ,iZ,iZ,nL,.nilf,.nilf] []) [],sT 8 2 11,mB 3 false] .ret) .skip)) (sr [0,2] [0,2,4] [oo 12 (pC 158) [],oo 4 (.box 88) [.c (.agg [iZ,iZ,iZ,iZ,iZ,nL,.nilf,.nilf,iZ,iZ,iZ,iZ,iZ,nL,.nilf,.nilf,iZ,iZ,iZ,iZ,iZ,nL,.nilf,.nilf,iZ,iZ,iZ,iZ,iZ,nL,.nilf,.nilf,iZ,iZ,iZ,iZ,iZ,nL,.nilf,.nilf,iZ,iZ,iZ,iZ,iZ,nL,.nilf,.nilf,iZ,iZ,iZ,iZ,iZ,nL,.nilf,.nilf,iZ,iZ,iZ,iZ,iZ,nL,.nilf,.nilf,iZ,iZ,iZ,iZ,iZ,nL,.nilf,.nilf,iZ,iZ,iZ,iZ,iZ,nL,.nilf,.nilf,iZ,iZ,iZ,iZ,iZ,nL,.nilf,.nilf])],sT 88 4 12] (sr [0,2,4] [2,3] [mm 13 0,oB 14 (.idxp 11 8) 4 13,oA 15 (Lt 8) 14,sT 8 2 15,mB 3 true] .ret))))
def zoJ:FI:=⟨1,16,c112,[.cell 2 true 8,.tmp 3]⟩
theorem zAx:zh Tryz.prog 112 zoJ=true:=by kernel_rfl
def c113:LC:=(sr [0,1] [0,1] [mK 4 0] (sr [0,1] [4] [mm 5 0,mm 6 1,oB 7 (.call 159) 5 6,mm 4 7] .ret))
def zoI:FI:=⟨2,8,c113,[.tmp 4]⟩
theorem zAw:zh Tryz.prog 113 zoI=true:=by kernel_rfl
def c114:LC:=(sr [0,1,2] [1,2,3] [oA 3 (.box 5) 0,mB 4 false] (sr [1,2,3] [4] [ff 5 2 3,ll 6 5,ll 7 1,oB 8 Be 6 7,mm 9 8,sA 14 9 [ff 10 3 3,ll 11 10,ll 12 2,oB 13 Be 11 12] 13,mm 4 14] .ret))
def zrW:FI:=⟨3,15,c114,[.tmp 4]⟩
theorem zAv:zh Tryz.prog 114 zrW=true:=by kernel_rfl
def c115:LC:=(sr [0] [0] [mB 2 false] (sr [0] [2] [mm 3 0,oA 4 (pC 116) 3,oA 5 .not 4,mm 2 5] .ret))
def zvv:FI:=⟨1,6,c115,[.tmp 2]⟩
theorem zAu:zh Tryz.prog 115 zvv=true:=by kernel_rfl
def c116:LC:=(sr [0] [0] [mB 2 false] (sr [0] [2] [mm 3 0,oo 4 (.bin .geq) [.t 3,.c (.int .i64 (-1099511627776))],mm 5 4,sA 8 5 [mm 6 0,oC 7 (.bin .leq) 6 1099511627776] 7,mm 2 8] .ret))
def zl8:FI:=⟨1,9,c116,[.tmp 2]⟩
theorem zAt:zh Tryz.prog 116 zl8=true:=by kernel_rfl
def c117:LC:=(sr [0,1] [2,3] [oA 2 (.box 8) 0,oA 3 (.box 3) 1,oo 4 .mv [.c .nilp]] (sr [2,3] [2,3,5] [ff 8 0 2,ll 9 8,oA 10 (pC 112) 9,mm 7 10,oA 11 (.ext 0) 7,oA 12 (.ext 1) 7,oo 5 (.box 8) [.c (.agg [iZ,iZ,iZ,iZ,iZ,nL,.nilf,.nilf])],sT 8 5 11,mm 6 12] (st [2,3,5] [4] [oA 13 (Lt 8) 2,oA 14 (Lt 3) 3,ff 15 1 5,ll 16 15,oo 17 (.mksl 1 nL) [.t 16,.t 16],oo 18 (.bld [iZ,iZ,iZ,iZ,(.str []),iZ,nL,nL,nL,iZ,(.bool false),nL,iZ,iZ] [(0,8),(8,3),(11,1)]) [.t 13,.t 14,.t 17],oA 19 (.box 14) 18,mm 4 19] .ret)))
def zrV:FI:=⟨2,20,c117,[.tmp 4]⟩
theorem zAs:zh Tryz.prog 117 zrV=true:=by kernel_rfl
def zxS:LC:=(sr [0,4,16,17,18] [0,4,16,17,18,19] [oB 19 Bl 18 17] (.seq (cD 19 .skip (.exit 1)) (.seq (.block 2 [0,4,16,17,18] (sr [0,4,16,17,18] [0,4,8,16,17,18] [oB 20 (iA 1) 16 18,ll 21 20,mm 8 21] (.reg false [0,4,8,16,17,18] [0,4,16,17,18] [ff 22 6 4,ll 23 22,mm 24 0,mm 25 8,oo 26 .callv [.t 23,.t 24,kk 0,.t 25]]))) (.reg false [0,4,16,17,18] [0,4,16,17,18] [oC 27 Ba 18 1,mm 18 27]))))
def zxf:LC:=zxS
def c118:LC:=(sr [0,1,2] [0,2,4] [oA 4 (.boxH 99 8) 1] (sr [0,2,4] [0,2,4,13] [mm 9 0,oA 10 .nilchk 9,ff 11 0 10,ff 12 0 11,ll 13 12] (.block 0 [] (sr [0,2,4,13] [0,2,4,13,32] [oC 33 Be 13 1,mm 32 33] (cD 32 (.reg true [0] [] [mm 34 0,oA 35 .nilchk 34,ff 36 11 35,ll 37 36,mm 38 0,oA 39 .nilchk 38,ff 40 0 39,ff 41 7 40,ll 42 41,oB 43 (.callA 44 1) 42 36,oC 44 (iA 1) 37 0,sT 1 44 43]) (sr [0,2,4,13] [0,2,4,13,45] [oC 46 Be 13 8,mm 45 46] (cD 45 .any (sr [0,2,4,13] [0,2,4,59] [oC 60 Be 13 9,mm 59 60] (cD 59 .any (.seq (sr [0,2,4] [0,4,16,17,18] [mm 14 2,oC 15 (iA 1) 14 0,ll 16 15,oA 17 Ln 16,mK 18 0] (.block 1 [0,4] (.loop [0,4,16,17,18] zxf))) (.reg false [0,4] [] [ff 28 7 4,ll 29 28,mm 30 0,oo 31 .callv [.t 29,.t 30,kk 0]])))))))))))
def zvu:FI:=⟨3,90,c118,[]⟩
theorem zAr:zh Tryz.prog 118 zvu=true:=by kernel_rfl
def c119:LC:=(sr [0,1] [0,1] [mB 4 false] (sr [0,1] [4] [mm 5 0,mm 6 1,oB 7 (.call 163) 5 6,oC 8 (.bin .geq) 7 0,mm 4 8] .ret))
def zvt:FI:=⟨2,9,c119,[.tmp 4]⟩
theorem zAq:zh Tryz.prog 119 zvt=true:=by kernel_rfl
def c120:LC:=(sr [0] [0] [mB 2 false] (sr [0] [2] [mm 3 0,oA 4 Ln 3,oC 5 Bg 4 200,mm 2 5] .ret))
def zvs:FI:=⟨1,6,c120,[.tmp 2]⟩
theorem zAp:zh Tryz.prog 120 zvs=true:=by kernel_rfl
def c121:LC:=(sr [0,1,2] [1,2,3] [oA 3 (.box 5) 0,mB 4 false] (sr [1,2,3] [4] [ff 5 0 3,ll 6 5,ll 7 1,oB 8 Be 6 7,mm 9 8,sA 14 9 [ff 10 1 3,ll 11 10,ll 12 2,oB 13 Be 11 12] 13,mm 4 14] .ret))
def zrU:FI:=⟨3,15,c121,[.tmp 4]⟩
theorem zAo:zh Tryz.prog 121 zrU=true:=by kernel_rfl
def c122:LC:=(sr [0] [0] [mB 2 false] (sr [0] [2] [mm 3 0,oA 4 (pC 116) 3,oA 5 .not 4,mm 2 5] .ret))
def zrT:FI:=⟨1,6,c122,[.tmp 2]⟩
theorem zAn:zh Tryz.prog 122 zrT=true:=by kernel_rfl
def zjc:LC:=(sr [2,3,16,17,18] [2,3,16,17,18,19] [oB 19 Bl 18 17] (.seq (cD 19 .skip (.exit 0)) (.seq (.block 1 [2,3,16,17,18] (sr [2,3,16,17,18] [2,3,7,16,17,18] [oB 20 (iA 1) 16 18,ll 21 20,mm 7 21] (sr [2,3,7,16,17,18] [2,3,16,17,18,26] [ff 22 5 2,ll 23 22,mm 24 7,oB 25 (pC 166) 23 24,oA 26 .not 25] (cD 26 (sr [] [4] [mK 4 5] .ret) .skip)))) (.reg false [2,3,16,17,18] [2,3,16,17,18] [oC 27 Ba 18 1,mm 18 27]))))
def znT:LC:=zjc
theorem zht:ELq znT zjc:=fun _ _ _=>rfl
def c123:LC:=(sr [0,1] [2,3] [oA 2 (.box 8) 0,oA 3 (.box 5) 1,mK 4 0] (.seq (sr [2,3] [2,3,5] [oA 10 (Lt 5) 3,oA 11 (pC 164) 10,mm 5 11] (sr [2,3,5] [2,3,5,13] [mm 12 5,oC 13 Bn 12 0] (cD 13 (sr [5] [4] [mm 14 5,mm 4 14] .ret) .skip))) (.seq (sr [2,3] [2,3,16,17,18] [oA 15 (Lt 5) 3,oA 16 (pC 165) 15,oA 17 Ln 16,mK 18 0] (.block 0 [2,3] (.loop [2,3,16,17,18] znT))) (.seq (st [2,3] [2,8,9] [oA 29 (Lt 5) 3,ff 30 5 2,ll 31 30,oo 32 (.bsl true 1 2 iZ [0,1]) [kk 0,kk 0],oB 33 (pC 168) 31 32,oB 34 (pC 167) 29 33,mm 28 34,oA 35 (.ext 0) 28,oA 36 (.ext 1) 28,mm 8 35,mm 9 36] (sr [2,8,9] [44] [mm 37 9,oC 38 Bn 37 0,mm 39 38,sO 44 39 [mm 40 8,ff 41 4 2,ll 42 41,oB 43 Bn 40 42] (.t 43)] (cD 44 (sr [] [4] [mK 4 15] .ret) .skip))) (sr [] [4] [mK 4 0] .ret)))))
def ziJ:FI:=⟨2,45,c123,[.tmp 4]⟩
theorem zAm:zh Tryz.prog 123 ziJ=true:=by kernel_rfl
def c124:LC:=(sr [0,1,2] [0,1,2] [mB 6 false] (sr [0,1,2] [6] [mm 7 0,mm 8 1,oB 9 (.bin .geq) 7 8,mm 10 9,sA 14 10 [mm 11 0,mm 12 2,oB 13 (.bin .leq) 11 12] 13,mm 6 14] .ret))
def zrS:FI:=⟨3,15,c124,[.tmp 6]⟩
theorem zAl:zh Tryz.prog 124 zrS=true:=by kernel_rfl
def c125:LC:=(sr [0,1] [1,2,4] [oA 2 (.box 6) 0,oo 4 (.box 6) [.c (.agg [iZ,iZ,iZ,iZ,nL,(.bool false)])],mK 5 0] (.seq (sr [1,2,4] [1,2,4,6] [oA 7 (Lt 6) 2,oA 8 (pC 137) 7,mm 6 8] (sr [1,2,4,6] [1,2,4,6,10] [mm 9 6,oC 10 Bn 9 0] (cD 10 (sr [4,6] [4,5] [oo 11 (.bld [iZ,iZ,iZ,iZ,nL,(.bool false)] []) [],mm 12 6,sT 6 4 11,mm 5 12] .ret) .skip))) (sr [1,2,4] [4,5] [mm 13 1,oA 14 (Lt 6) 2,oB 15 .callv 13 14,oA 16 (.ext 0) 15,oA 17 (.ext 1) 15,sT 6 4 16,mm 5 17] .ret)))
def zcz:FI:=⟨2,18,c125,[.cell 4 true 6,.tmp 5]⟩
theorem zAk:zh Tryz.prog 125 zcz=true:=by kernel_rfl
def c126:LC:=(sr [0,1] [2,3,4] [oA 2 (.box 1) 0,oA 3 (.box 6) 1,oo 4 (.box 6) [.c (.agg [iZ,iZ,iZ,iZ,nL,(.bool false)])],mK 5 0] (.seq (.block 0 [2,3,4] (sr [2,3,4] [2,3,4,6] [ff 7 0 2,ll 8 7,oC 9 Bl 8 1,mm 6 9] (cD 6 (sr [4] [4,5] [oo 10 (.bld [iZ,iZ,iZ,iZ,nL,(.bool false)] []) [],sT 6 4 10,mK 5 2] .ret) (sr [2,3,4] [2,3,4,11] [ff 12 5 3,ll 13 12,mm 11 13] (cD 11 (sr [4] [4,5] [oo 14 (.bld [iZ,iZ,iZ,iZ,nL,(.bool false)] []) [],sT 6 4 14,mK 5 19] .ret) (sr [2,3,4] [2,3,4,15] [ff 16 0 2,ll 17 16,ff 18 3 3,ll 19 18,ff 20 0 3,ll 21 20,oB 22 Ba 19 21,ff 23 1 3,ll 24 23,oB 25 (.bin .sub) 22 24,oB 26 Bg 17 25,mm 15 26] (cD 15 (sr [4] [4,5] [oo 27 (.bld [iZ,iZ,iZ,iZ,nL,(.bool false)] []) [],sT 6 4 27,mK 5 18] .ret) (sr [2,3,4] [2,3,4,28] [ff 29 1 3,ll 30 29,ff 31 0 2,ll 32 31,oB 33 Ba 30 32,oC 34 Bg 33 1099511627776,mm 28 34] (cD 28 (sr [4] [4,5] [oo 35 (.bld [iZ,iZ,iZ,iZ,nL,(.bool false)] []) [],sT 6 4 35,mK 5 4] .ret) .skip))))))))) (sr [2,3,4] [3,4] [ff 36 1 3,ll 37 36,ff 38 0 2,ll 39 38,oB 40 Ba 37 39,ff 41 1 3,sT 1 41 40] (sr [3,4] [4,5] [oA 42 (Lt 6) 3,sT 6 4 42,mK 5 0] .ret))))
def ziI:FI:=⟨2,43,c126,[.cell 4 true 6,.tmp 5]⟩
theorem zAj:zh Tryz.prog 126 ziI=true:=by kernel_rfl
def zgG:LC:=(.seq (sr [0,1,6,7,8,9] [0,1,6,7,8,9,29] [mm 19 9,mm 20 1,oA 21 Ln 20,oB 22 Bl 19 21,mm 23 22,sA 29 23 [mm 24 9,mm 25 7,mm 26 0,oB 27 Ba 25 26,oB 28 Bl 24 27] 28] (cD 29 .skip (.exit 2))) (.seq (.block 3 [0,1,6,7,8,9] (sr [0,1,6,7,8,9] [0,1,6,7,8,9] [mm 32 8,mm 33 1,mm 34 9,oB 35 (iA 1) 33 34,ll 36 35,oB 37 Ba 32 36,mm 8 37] (sr [0,1,6,7,8,9] [0,1,6,7,8,9,40] [mm 38 8,oA 39 (pC 140) 38,oA 40 .not 39] (cD 40 (sr [] [4,5] [oo 41 (.bsl true 1 0 iZ []) [],mm 4 41,mK 5 14] .ret) .skip)))) (.reg false [0,1,6,7,8,9] [0,1,6,7,8,9] [mm 30 9,oC 31 Ba 30 1,mm 9 31])))
def znS:LC:=zgG
theorem ze6:ELq znS zgG:=fun _ _ _=>rfl
def zgF:LC:=(.seq (sr [0,1,6,7] [0,1,6,7,14] [mm 11 7,mm 12 1,oA 13 Ln 12,oB 14 Bl 11 13] (cD 14 .skip (.exit 0))) (.seq (.block 1 [0,1,6,7] (sr [0,1,6,7] [0,1,6,7,8] [mK 8 0] (.seq (sr [0,1,6,7,8] [0,1,6,7,8,9] [mm 18 7,mm 9 18] (.block 2 [0,1,6,7,8] (.loop [0,1,6,7,8,9] znS))) (.reg false [0,1,6,7,8] [0,1,6,7] [mm 42 6,mm 43 8,oo 44 (.bsl true 1 1 iZ [0]) [.t 43],oB 45 (.app 1) 42 44,mm 6 45])))) (.reg false [0,1,6,7] [0,1,6,7] [mm 15 7,mm 16 0,oB 17 Ba 15 16,mm 7 17])))
def zkX:LC:=zgF
theorem ze5:ELq zkX zgF:=fun _ _ _=>rfl
def c128:LC:=(sr [0,1] [0,1] [oo 4 .mv [.c nL],mK 5 0] (sr [0,1] [0,1,6] [oo 10 (.bsl false 1 0 iZ []) [],mm 6 10] (.seq (sr [0,1,6] [0,1,6,7] [mK 7 0] (.block 0 [6] (.loop [0,1,6,7] zkX))) (sr [6] [4,5] [mm 46 6,mm 4 46,mK 5 0] .ret))))
def zoH:FI:=⟨2,47,c128,[.tmp 4,.tmp 5]⟩
theorem zAi:zh Tryz.prog 128 zoH=true:=by kernel_rfl
abbrev zmV:LC:=(.reg false [1,2,3,8,9,10] [1,2,3,8,9,10] [mm 87 9,mm 88 1,mm 89 10,oB 90 (iA 1) 88 89,ll 91 90,oo 92 (.bsl true 1 1 iZ [0]) [.t 91],oB 93 (.app 1) 87 92,mm 9 93])
def zsR:LC:=zmV
@[simp] theorem evy130_0:ELq zsR zmV:=fun _ _ _=>rfl
def zls:LC:=(.seq (sr [1,2,3,8,9,10,15] [1,2,3,8,9,10,15,99] [mm 96 15,ff 97 1 3,ll 98 97,oB 99 Bl 96 98] (cD 99 .skip (.exit 3))) (.seq (.block 4 [1,2,3,8,9,10,15] (.reg false [1,2,3,8,9,10,15] [1,2,3,8,9,10,15] [mm 102 8,mm 103 1,mm 104 10,oB 105 (iA 1) 103 104,ll 106 105,oo 107 (.bsl true 1 1 iZ [0]) [.t 106],oB 108 (.app 1) 102 107,mm 8 108])) (.reg false [1,2,3,8,9,10,15] [1,2,3,8,9,10,15] [mm 100 15,oC 101 Ba 100 1,mm 15 101])))
def zkW:LC:=zls
theorem zlf:ELq zkW zls:=fun _ _ _=>rfl
abbrev zmU:LC:=(sr [1,2,3,8,9,10,57] [1,2,3,8,9,10,109] [oC 110 Be 57 6,mm 109 110] (cD 109 (sr [1,2,3,8,9,10] [1,2,3,8,9,10,114] [mm 111 10,ff 112 1 3,ll 113 112,oB 114 Bl 111 113] (cD 114 (.reg false [1,2,3,8,9,10] [1,2,3,8,9,10] [mm 115 8,mm 116 1,mm 117 10,oB 118 (iA 1) 116 117,ll 119 118,oo 120 (.bsl true 1 1 iZ [0]) [.t 119],oB 121 (.app 1) 115 120,mm 8 121]) .skip)) .skip))
def zsQ:LC:=zmU
@[simp] theorem evy130_1:ELq zsQ zmU:=fun _ _ _=>rfl
abbrev zmT:LC:=(sr [1,2,3,8,9,10,57] [1,2,3,8,9,10,57,94] [oC 95 Be 57 5,mm 94 95] (cD 94 (sr [1,2,3,8,9,10] [1,2,3,8,9,10,15] [mK 15 0] (.block 3 [1,2,3,8,9,10] (.loop [1,2,3,8,9,10,15] zkW))) zsQ))
def zsP:LC:=zmT
@[simp] theorem evy130_2:ELq zsP zmT:=fun _ _ _=>rfl
abbrev zmS:LC:=(sr [1,2,3,8,9,10,12,57] [1,2,3,8,9,10,12,57,76] [oC 77 Be 57 7,mm 76 77] (cD 76 (sr [1,2,3,8,9,10,12] [1,2,3,8,9,10,79] [mm 78 12,oC 79 Be 78 1] (cD 79 (.reg false [1,2,3,8,9,10] [1,2,3,8,9,10] [mm 80 8,mm 81 1,mm 82 10,oB 83 (iA 1) 81 82,ll 84 83,oo 85 (.bsl true 1 1 iZ [0]) [.t 84],oB 86 (.app 1) 80 85,mm 8 86]) zsR)) zsP))
def zsO:LC:=zmS
@[simp] theorem evy130_3:ELq zsO zmS:=fun _ _ _=>rfl
abbrev zmR:LC:=(sr [1,2,3,8,9,10,12,57] [1,2,3,8,9,10,12,57,65] [oC 66 Be 57 3,mm 65 66] (cD 65 (sr [1,2,3,8,9,10,12] [1,2,3,8,9,10,68] [mm 67 12,oC 68 Be 67 1] (cD 68 (.reg false [1,2,3,8,9,10] [1,2,3,8,9,10] [mm 69 8,mm 70 1,mm 71 10,oB 72 (iA 1) 70 71,ll 73 72,oo 74 (.bsl true 1 1 iZ [0]) [.t 73],oB 75 (.app 1) 69 74,mm 8 75]) .skip)) zsO))
def zsN:LC:=zmR
@[simp] theorem evy130_4:ELq zsN zmR:=fun _ _ _=>rfl
def zbr:LC:=(.seq (sr [1,2,3,8,9,10] [1,2,3,8,9,10,21] [mm 18 10,mm 19 1,oA 20 Ln 19,oB 21 Bl 18 20] (cD 21 .skip (.exit 0))) (.seq (.block 1 [1,2,3,8,9,10] (sr [1,2,3,8,9,10] [1,2,3,8,9,10,11] [mK 11 0] (.seq (sr [1,2,3,8,9,10,11] [1,2,3,8,9,10,11,26] [ff 24 0 3,ll 25 24,oC 26 Be 25 9] (cD 26 (.seq (sr [1,2,3,8,9,10] [1,2,3,8,9,10,30] [mm 27 10,mm 28 2,oA 29 Ln 28,oB 30 (.bin .geq) 27 29] (cD 30 (.exit 0) .skip)) (.reg false [1,2,3,8,9,10] [1,2,3,8,9,10,11] [mm 31 2,mm 32 10,oB 33 (iA 1) 31 32,ll 34 33,mm 11 34])) .skip)) (sr [1,2,3,8,9,10,11] [1,2,3,8,9,10,11,12] [mK 12 0] (.seq (sr [1,2,3,8,9,10,11,12] [1,2,3,8,9,10,11,12,38] [ff 35 0 3,ll 36 35,oA 37 (pC 102) 36,oC 38 Bn 37 0] (cD 38 (st [1,2,3,8,9,10,11] [1,2,3,8,9,10,13,14] [ff 40 2 3,oA 41 (Lt 5) 40,mm 42 1,mm 43 10,oB 44 (iA 1) 42 43,ll 45 44,mm 46 11,oB 47 (pC 151) 45 46,oB 48 (pC 169) 41 47,mm 39 48,oA 49 (.ext 0) 39,oA 50 (.ext 1) 39,mm 13 49,mm 14 50] (.seq (sr [1,2,3,8,9,10,13,14] [1,2,3,8,9,10,13,14,52] [mm 51 14,oC 52 Bn 51 0] (cD 52 (sr [14] [6,7] [oo 53 (.bsl true 1 0 nL []) [],mm 54 14,mm 6 53,mm 7 54] .ret) .skip)) (.reg false [1,2,3,8,9,10,13] [1,2,3,8,9,10,12] [mm 55 13,mm 12 55]))) .skip)) (sr [1,2,3,8,9,10,12] [1,2,3,8,9,10,12,57] [ff 56 0 3,ll 57 56] (.block 2 [1,2,3,8,9,10] (.seq (sr [1,2,3,8,9,10,12,57] [1,2,3,8,9,10,12,57,58] [oC 59 Be 57 2,mm 58 59] (cD 58 .skip (.reg false [1,2,3,8,9,10,12,57] [1,2,3,8,9,10,12,57,58] [oC 60 Be 57 9,mm 58 60]))) (cD 58 (.reg false [1,2,3,8,9,10,12] [1,2,3,8,9,10] [mm 61 8,mm 62 12,oo 63 (.bsl true 1 1 iZ [0]) [.t 62],oB 64 (.app 1) 61 63,mm 8 64]) zsN))))))))) (.reg false [1,2,3,8,9,10] [1,2,3,8,9,10] [mm 22 10,oC 23 Ba 22 1,mm 10 23])))
def ziq:LC:=zbr
theorem zaB:ELq ziq zbr:=fun _ _ _=>rfl
def c130:LC:=(sr [0,1,2] [1,2,3] [oA 3 (.box 8) 0,oo 6 .mv [.c nL],mK 7 0] (sr [1,2,3] [1,2,3,8,9] [oo 16 (.bsl false 1 0 iZ []) [],oo 17 (.bsl false 1 0 iZ []) [],mm 8 16,mm 9 17] (.seq (sr [1,2,3,8,9] [1,2,3,8,9,10] [mK 10 0] (.block 0 [8,9] (.loop [1,2,3,8,9,10] ziq))) (sr [8,9] [6,7] [mm 122 8,mm 123 9,oo 124 (.bsl false 1 2 nL [0,1]) [.t 122,.t 123],mm 6 124,mK 7 0] .ret))))
def zoG:FI:=⟨3,125,c130,[.tmp 6,.tmp 7]⟩
theorem zAh:zh Tryz.prog 130 zoG=true:=by kernel_rfl
def c131:LC:=(sr [0] [1] [oA 1 (.box 5) 0,mK 2 0] (sr [1] [3] [oA 4 (Lt 5) 1,oC 5 (pC 170) 4 0,mm 3 5] (.seq (sr [3] [3,7] [mm 6 3,oC 7 Bg 6 100] (cD 7 (sr [] [2] [mK 2 101] .ret) .skip)) (sr [3] [2] [mm 8 3,mm 2 8] .ret))))
def zoF:FI:=⟨1,9,c131,[.tmp 2]⟩
theorem zAg:zh Tryz.prog 131 zoF=true:=by kernel_rfl
def zjb:LC:=(.seq (sr [1,3] [1,3,12] [mm 8 3,ff 9 4 1,ll 10 9,oA 11 Ln 10,oB 12 Bl 8 11] (cD 12 .skip (.exit 0))) (.seq (.block 1 [1,3] (sr [1,3] [1,3,20] [ff 15 4 1,ll 16 15,mm 17 3,oB 18 (iA 5) 16 17,oA 19 (Lt 5) 18,oA 20 (pC 132) 19] (cD 20 (sr [] [2] [mB 2 true] .ret) .skip))) (.reg false [1,3] [1,3] [mm 13 3,oC 14 Ba 13 1,mm 3 14])))
def znR:LC:=zjb
theorem zhs:ELq znR zjb:=fun _ _ _=>rfl
def c132:LC:=(sr [0] [1] [oA 1 (.box 5) 0,mB 2 false] (.seq (sr [1] [1,7] [ff 4 2 1,ll 5 4,oA 6 (.len true) 5,oC 7 Bg 6 40] (cD 7 (sr [] [2] [mB 2 true] .ret) .skip)) (.seq (sr [1] [1,3] [mK 3 0] (.block 0 [] (.loop [1,3] znR))) (sr [] [2] [mB 2 false] .ret))))
def zl7:FI:=⟨1,21,c132,[.tmp 2]⟩
theorem zAf:zh Tryz.prog 132 zl7=true:=by kernel_rfl
def c133:LC:=(sr [0] [1] [oA 1 (.box 6) 0,mB 2 false] (sr [1] [2] [oA 3 (Lt 6) 1,oA 4 (pC 137) 3,oC 5 Be 4 0,mm 6 5,sA 9 6 [ff 7 5 1,ll 8 7] 8,mm 10 9,sA 15 10 [ff 11 4 1,ll 12 11,oA 13 Ln 12,oC 14 Be 13 0] 14,mm 2 15] .ret))
def zoE:FI:=⟨1,16,c133,[.tmp 2]⟩
theorem zAe:zh Tryz.prog 133 zoE=true:=by kernel_rfl
def c134:LC:=(sr [0,1,2] [2,3,4,6] [oA 3 (.box 8) 0,oA 4 (.box 3) 1,oo 6 (.box 3) [.c (.agg [nL,iZ,(.bool false)])],oo 7 .mv [.c nL],mB 8 false,mK 9 0] (.seq (sr [2,3,4,6] [2,3,4,6,11] [oA 17 (Lt 8) 3,oA 18 (Lt 3) 4,oB 19 (pC 95) 17 18,mm 16 19,oA 20 (.ext 0) 16,oA 21 (.ext 1) 16,mm 10 20,mm 11 21] (sr [2,3,4,6,11] [2,3,4,6,11,23] [mm 22 11,oC 23 Bn 22 0] (cD 23 (sr [6,11] [6,7,8,9] [oo 24 (.bld [nL,iZ,(.bool false)] []) [],mm 25 11,sT 3 6 24,oo 7 .mv [.c nL],mB 8 false,mm 9 25] .ret) .skip))) (sr [2,3,4,6] [2,3,4,6,12] [ff 27 0 3,ll 28 27,oA 29 (pC 112) 28,mm 26 29,oA 30 (.ext 0) 26,oA 31 (.ext 1) 26,oo 12 (.box 8) [.c (.agg [iZ,iZ,iZ,iZ,iZ,nL,.nilf,.nilf])],sT 8 12 30,mm 13 31] (sr [2,3,4,6,12] [2,3,4,6,12,14] [ff 32 0 3,ll 33 32,oC 34 Be 33 1,mm 14 34] (.seq (sr [2,3,4,6,12,14] [2,3,4,6,12,14,53] [mm 35 14,mm 36 35,sA 39 36 [mm 37 2,oo 38 Bn [.t 37,.c (.int .i64 (-1))]] 38,mm 40 39,sO 53 40 [mm 41 14,oA 42 .not 41,mm 43 42,sA 52 43 [mm 44 2,oC 45 Bl 44 0,mm 46 45,sO 51 46 [mm 47 2,ff 48 0 12,ll 49 48,oB 50 (.bin .geq) 47 49] (.t 50)] 51] (.t 52)] (cD 53 (sr [6] [6,7,8,9] [oo 54 (.bld [nL,iZ,(.bool false)] []) [],sT 3 6 54,oo 7 .mv [.c nL],mB 8 false,mK 9 2] .ret) .skip)) (.seq (sr [2,3,4,6,12,14] [2,3,4,6,12,66] [ff 55 2 4,ll 56 55,mm 57 56,sO 66 57 [mm 58 14,oA 59 .not 58,mm 60 59,sA 65 60 [oA 61 (Lt 8) 3,oA 62 (Lt 3) 4,mm 63 2,oo 64 (pC 144) [.t 61,.t 62,.t 63]] 64] (.t 65)] (cD 66 (sr [6] [6,7,8,9] [oo 67 (.bld [nL,iZ,(.bool false)] []) [],sT 3 6 67,oo 7 .mv [.c nL],mB 8 false,mK 9 17] .ret) .skip)) (sr [2,3,4,6,12] [2,6,12,15] [oA 68 (Lt 8) 3,oA 69 (Lt 3) 4,oB 70 (.call 117) 68 69,mm 15 70] (sr [2,6,12,15] [6,15] [ff 71 7 12,ll 72 71,mm 73 15,mm 74 2,oo 75 .callv [.t 72,.t 73,.t 74]] (.seq (sr [6,15] [6,15,80] [mm 76 15,oA 77 .nilchk 76,ff 78 12 77,ll 79 78,oC 80 Bn 79 0] (cD 80 (st [6,15] [6,7,8,9] [oo 81 (.bld [nL,iZ,(.bool false)] []) [],mm 82 15,oA 83 .nilchk 82,ff 84 12 83,ll 85 84,.op none (.storeA 3) [.t 6,.t 81,.t 84],oo 7 .mv [.c nL],mB 8 false,mm 9 85] .ret) .skip)) (st [6,15] [6,7,8,9] [mm 86 15,oA 87 .nilchk 86,ff 88 8 87,oA 89 (Lt 3) 88,mm 90 15,oA 91 .nilchk 90,ff 92 11 91,ll 93 92,mm 94 15,oA 95 .nilchk 94,ff 96 8 95,ff 97 2 96,ll 98 97,.op none (.storeA 3) [.t 6,.t 89,.t 92,.t 97],mm 7 93,mm 8 98,mK 9 0] .ret))))))))))
def zdu:FI:=⟨3,99,c134,[.cell 6 true 3,.tmp 7,.tmp 8,.tmp 9]⟩
theorem zAd:zh Tryz.prog 134 zdu=true:=by kernel_rfl
def c135:LC:=(sr [0,1,2,3] [2,3,4,5,8] [oA 4 (.box 8) 0,oA 5 (.box 3) 1,oo 8 (.box 3) [.c (.agg [nL,iZ,(.bool false)])],oo 9 .mv [.c nL],mK 10 0] (sr [2,3,4,5,8] [2,3,4,5,8,11,12] [oA 18 (Lt 8) 4,oA 19 (Lt 3) 5,oB 20 (pC 95) 18 19,mm 17 20,oA 21 (.ext 0) 17,oA 22 (.ext 1) 17,mm 11 21,mm 12 22] (.seq (sr [2,3,4,5,8,11,12] [2,3,4,5,8,11,12,24] [mm 23 12,oC 24 Bn 23 0] (cD 24 (sr [8,12] [8,9,10] [oo 25 (.bld [nL,iZ,(.bool false)] []) [],mm 26 12,sT 3 8 25,oo 9 .mv [.c nL],mm 10 26] .ret) .skip)) (sr [2,3,4,5,8,11] [2,3,4,5,8,11,13] [ff 27 0 4,ll 28 27,oC 29 Be 28 1,mm 13 29] (.seq (sr [2,3,4,5,8,11,13] [2,3,4,5,8,13,56] [ff 30 2 5,ll 31 30,mm 32 31,sO 46 32 [mm 33 13,mm 34 33,sA 45 34 [mm 35 2,oo 36 Bn [.t 35,.c (.int .i64 (-1))],mm 37 36,sO 44 37 [ff 38 1 5,ll 39 38,ff 40 7 4,ll 41 40,oA 42 Ln 41,oB 43 Be 39 42] (.t 43)] 44] (.t 45),mm 47 46,sO 56 47 [mm 48 13,oA 49 .not 48,mm 50 49,sA 55 50 [mm 51 11,mm 52 2,oB 53 (pC 171) 51 52,oA 54 .not 53] 54] (.t 55)] (cD 56 (sr [8] [8,9,10] [oo 57 (.bld [nL,iZ,(.bool false)] []) [],sT 3 8 57,oo 9 .mv [.c nL],mK 10 17] .ret) .skip)) (.seq (sr [2,3,4,5,8,13] [2,3,4,5,8,67] [mm 58 3,oA 59 (pC 116) 58,oA 60 .not 59,mm 61 60,sO 67 61 [mm 62 13,mm 63 62,sA 66 63 [mm 64 3,oC 65 Bn 64 0] 65] (.t 66)] (cD 67 (sr [8] [8,9,10] [oo 68 (.bld [nL,iZ,(.bool false)] []) [],sT 3 8 68,oo 9 .mv [.c nL],mK 10 2] .ret) .skip)) (sr [2,3,4,5,8] [2,3,4,5,8,14] [ff 70 0 4,ll 71 70,oA 72 (pC 112) 71,mm 69 72,oA 73 (.ext 0) 69,oA 74 (.ext 1) 69,oo 14 (.box 8) [.c (.agg [iZ,iZ,iZ,iZ,iZ,nL,.nilf,.nilf])],sT 8 14 73,mm 15 74] (sr [2,3,4,5,8,14] [2,3,8,14,16] [oA 75 (Lt 8) 4,oA 76 (Lt 3) 5,oB 77 (.call 117) 75 76,mm 16 77] (sr [2,3,8,14,16] [8,16] [ff 78 6 14,ll 79 78,mm 80 16,mm 81 2,mm 82 3,oo 83 .callv [.t 79,.t 80,.t 81,.t 82]] (.seq (sr [8,16] [8,16,88] [mm 84 16,oA 85 .nilchk 84,ff 86 12 85,ll 87 86,oC 88 Bn 87 0] (cD 88 (st [8,16] [8,9,10] [oo 89 (.bld [nL,iZ,(.bool false)] []) [],mm 90 16,oA 91 .nilchk 90,ff 92 12 91,ll 93 92,.op none (.storeA 3) [.t 8,.t 89,.t 92],oo 9 .mv [.c nL],mm 10 93] .ret) .skip)) (st [8,16] [8,9,10] [mm 94 16,oA 95 .nilchk 94,ff 96 8 95,oA 97 (Lt 3) 96,mm 98 16,oA 99 .nilchk 98,ff 100 11 99,ll 101 100,.op none (.storeA 3) [.t 8,.t 97,.t 100],mm 9 101,mK 10 0] .ret)))))))))))
def zdh:FI:=⟨4,102,c135,[.cell 8 true 3,.tmp 9,.tmp 10]⟩
theorem zAb:zh Tryz.prog 135 zdh=true:=by kernel_rfl
def c136:LC:=(sr [0] [1] [oA 1 (.box 6) 0,mK 2 0] (.seq (sr [1] [1,9] [oA 3 (Lt 6) 1,oA 4 (pC 137) 3,oC 5 Bn 4 0,mm 6 5,sO 9 6 [ff 7 5 1,ll 8 7] (.t 8)] (cD 9 (sr [] [2] [mK 2 0] .ret) .skip)) (sr [1] [2] [ff 10 1 1,ll 11 10,ff 12 2 1,ll 13 12,oB 14 (.bin .sub) 11 13,mm 2 14] .ret)))
def zoD:FI:=⟨1,15,c136,[.tmp 2]⟩
theorem zAa:zh Tryz.prog 136 zoD=true:=by kernel_rfl
def c137:LC:=(sr [0] [1] [oA 1 (.box 6) 0,mK 2 0] (.seq (sr [1] [1,6] [ff 3 0 1,ll 4 3,oo 5 (pC 124) [.t 4,kk 1,kk 100],oA 6 .not 5] (cD 6 (sr [] [2] [mK 2 2] .ret) .skip)) (.seq (sr [1] [1,49] [ff 7 3 1,ll 8 7,oC 9 Bl 8 0,mm 10 9,sO 16 10 [ff 11 2 1,ll 12 11,ff 13 3 1,ll 14 13,oB 15 Bl 12 14] (.t 15),mm 17 16,sO 23 17 [ff 18 1 1,ll 19 18,ff 20 2 1,ll 21 20,oB 22 Bl 19 21] (.t 22),mm 24 23,sO 28 24 [ff 25 1 1,ll 26 25,oC 27 Bg 26 1099511627776] (.t 27),mm 29 28,sO 38 29 [ff 30 1 1,ll 31 30,ff 32 3 1,ll 33 32,oB 34 (.bin .sub) 31 33,ff 35 0 1,ll 36 35,oB 37 Bg 34 36] (.t 37),mm 39 38,sO 49 39 [ff 40 4 1,ll 41 40,oA 42 Ln 41,ff 43 2 1,ll 44 43,ff 45 3 1,ll 46 45,oB 47 (.bin .sub) 44 46,oB 48 Bn 42 47] (.t 48)] (cD 49 (sr [] [2] [mK 2 1] .ret) .skip)) (.seq (sr [1] [52] [ff 50 4 1,ll 51 50,oo 52 (.call 96) [.t 51,.c (.clo 172 [] [])]] (cD 52 (sr [] [2] [mK 2 1] .ret) .skip)) (sr [] [2] [mK 2 0] .ret)))))
def zeN:FI:=⟨1,53,c137,[.tmp 2]⟩
theorem zz9:zh Tryz.prog 137 zeN=true:=by kernel_rfl
def c138:LC:=(sr [0,1] [2,3,4] [oA 2 (.box 1) 0,oA 3 (.box 6) 1,oo 4 (.box 6) [.c (.agg [iZ,iZ,iZ,iZ,nL,(.bool false)])],mK 5 0] (.seq (.block 0 [2,3,4] (sr [2,3,4] [2,3,4,6] [ff 7 0 2,ll 8 7,oo 9 (pC 124) [.t 8,.c (.int .i64 (-1099511627776)),kk 1099511627776],oA 10 .not 9,mm 6 10] (cD 6 (sr [4] [4,5] [oo 11 (.bld [iZ,iZ,iZ,iZ,nL,(.bool false)] []) [],sT 6 4 11,mK 5 2] .ret) (sr [2,3,4] [2,3,4,12] [ff 13 5 3,ll 14 13,mm 12 14] (cD 12 (sr [4] [4,5] [oo 15 (.bld [iZ,iZ,iZ,iZ,nL,(.bool false)] []) [],sT 6 4 15,mK 5 19] .ret) (sr [2,3,4] [2,3,4,16] [ff 17 2 3,ll 18 17,ff 19 1 3,ll 20 19,oB 21 Be 18 20,mm 16 21] (cD 16 (sr [4] [4,5] [oo 22 (.bld [iZ,iZ,iZ,iZ,nL,(.bool false)] []) [],sT 6 4 22,mK 5 18] .ret) .skip))))))) (st [2,3,4] [3,4] [ff 23 4 3,ll 24 23,oA 25 (.callA 44 1000) 24,ff 26 0 2,ll 27 26,oo 28 (.bsl true 1 1 iZ [0]) [.t 27],oB 29 (.app 1) 25 28,ff 30 4 3,sT 1 30 29] (sr [3,4] [3,4] [ff 31 2 3,ll 32 31,oC 33 Ba 32 1,ff 34 2 3,sT 1 34 33] (sr [3,4] [4,5] [oA 35 (Lt 6) 3,sT 6 4 35,mK 5 0] .ret)))))
def ziH:FI:=⟨2,36,c138,[.cell 4 true 6,.tmp 5]⟩
theorem zz8:zh Tryz.prog 138 ziH=true:=by kernel_rfl
def c139:LC:=(sr [0,1] [3,4] [oA 2 (.box 1) 0,oA 3 (.box 6) 1,oo 4 (.box 6) [.c (.agg [iZ,iZ,iZ,iZ,nL,(.bool false)])],mK 5 0] (.seq (sr [3,4] [3,4,7] [ff 6 5 3,ll 7 6] (cD 7 (sr [4] [4,5] [oo 8 (.bld [iZ,iZ,iZ,iZ,nL,(.bool false)] []) [],sT 6 4 8,mK 5 19] .ret) .skip)) (sr [3,4] [3,4] [ff 9 5 3,.op none (.store 1) [.t 9,.c (.bool true)]] (sr [3,4] [4,5] [oA 10 (Lt 6) 3,sT 6 4 10,mK 5 0] .ret))))
def zoC:FI:=⟨2,11,c139,[.cell 4 true 6,.tmp 5]⟩
theorem zz7:zh Tryz.prog 139 zoC=true:=by kernel_rfl
def c140:LC:=(sr [0] [0] [mB 2 false] (sr [0] [2] [mm 3 0,oo 4 (pC 101) [.t 3,.c (.int .i64 (-1099511627776)),kk 1099511627776],mm 2 4] .ret))
def zrR:FI:=⟨1,5,c140,[.tmp 2]⟩
theorem zz6:zh Tryz.prog 140 zrR=true:=by kernel_rfl
def c141:LC:=(sr [0,1,2] [1,2,3] [oA 3 (.box 8) 0,oo 6 .mv [.c nL]] (sr [1,2,3] [6] [mm 7 1,mm 8 2,oo 9 (.bsl true 1 2 nL [0,1]) [.t 7,.t 8],oA 10 (Lt 8) 3,oA 11 (pC 63) 10,oB 12 (.slc false false 1 false true) 9 11,mm 6 12] .ret))
def zrQ:FI:=⟨3,13,c141,[.tmp 6]⟩
theorem zz5:zh Tryz.prog 141 zrQ=true:=by kernel_rfl
def c142:LC:=(sr [0,1,2,3] [2,3,4,5,8] [oA 4 (.box 8) 0,oA 5 (.box 3) 1,oo 8 (.box 3) [.c (.agg [nL,iZ,(.bool false)])],oo 9 .mv [.c nL],mK 10 0] (.seq (sr [2,3,4,5,8] [3,4,5,8,14] [mm 13 2,oC 14 Be 13 0] (cD 14 (.seq (sr [3,4,5,8] [3,4,5,8,18] [oA 15 (Lt 8) 4,oA 16 (Lt 3) 5,oo 17 (pC 100) [.t 15,.t 16,kk 1],oA 18 .not 17] (cD 18 (.reg false [3,4,5,8] [4,5,8] [mm 19 3,oo 20 (.bsl true 1 1 iZ [0]) [.t 19],ff 21 0 5,sT 1 21 20]) .skip)) (st [4,5,8] [8,9,10] [oA 22 (Lt 3) 5,oA 23 (Lt 8) 4,oo 24 (.bsl true 1 0 iZ []) [],oo 25 (.bsl true 1 0 iZ []) [],oo 26 (pC 141) [.t 23,.t 24,.t 25],sT 3 8 22,mm 9 26,mK 10 0] .ret)) .skip)) (.seq (sr [3,4,5,8] [3,4,5,8,30] [ff 27 0 5,ll 28 27,oA 29 Ln 28,oC 30 Be 29 0] (cD 30 (st [4,5,8] [8,9,10] [oA 31 (Lt 3) 5,oA 32 (Lt 8) 4,oo 33 (.bsl true 1 0 iZ []) [],oo 34 (.bsl true 1 0 iZ []) [],oo 35 (pC 141) [.t 32,.t 33,.t 34],sT 3 8 31,mm 9 35,mK 10 0] .ret) .skip)) (sr [3,4,5,8] [4,5,8,11,12] [oA 37 (Lt 8) 4,ff 38 0 5,ll 39 38,mm 40 3,oo 41 (.bsl true 1 1 iZ [0]) [.t 40],oo 42 (pC 130) [.t 37,.t 39,.t 41],mm 36 42,oA 43 (.ext 0) 36,oA 44 (.ext 1) 36,mm 11 43,mm 12 44] (.seq (sr [4,5,8,11,12] [4,5,8,11,12,46] [mm 45 12,oC 46 Bn 45 0] (cD 46 (sr [8,12] [8,9,10] [oo 47 (.bld [nL,iZ,(.bool false)] []) [],oo 48 (.bsl true 1 0 nL []) [],mm 49 12,sT 3 8 47,mm 9 48,mm 10 49] .ret) .skip)) (sr [4,5,8,11] [4,5,8,11] [oo 50 (.bsl true 1 0 iZ []) [],ff 51 0 5,sT 1 51 50] (st [4,5,8,11] [8,9,10] [oA 52 (Lt 3) 5,oA 53 (Lt 8) 4,mm 54 11,oC 55 (iA 1) 54 0,ll 56 55,oo 57 (.bsl true 1 0 iZ []) [],oo 58 (pC 141) [.t 53,.t 56,.t 57],sT 3 8 52,mm 9 58,mK 10 0] .ret)))))))
def zhd:FI:=⟨4,59,c142,[.cell 8 true 3,.tmp 9,.tmp 10]⟩
theorem zz4:zh Tryz.prog 142 zhd=true:=by kernel_rfl
def zbQ:LC:=(sr [3,49,50,51] [3,49,50,51,52] [oB 52 Bl 51 50] (.seq (cD 52 .skip (.exit 1)) (.seq (.block 2 [3,49,50,51] (sr [3,49,50,51] [3,7,8,49,50,51] [mm 53 51,oB 54 (iA 1) 49 51,ll 55 54,mm 7 53,mm 8 55] (sr [3,7,8,49,50,51] [3,49,50,51,75] [mm 56 8,oC 57 Bl 56 0,mm 58 57,sO 61 58 [mm 59 8,oC 60 Bg 59 1] (.t 60),mm 62 61,sO 75 62 [mm 63 7,oC 64 Bg 63 0,mm 65 64,sA 74 65 [ff 66 0 3,ll 67 66,mm 68 7,oC 69 (.bin .sub) 68 1,oB 70 (iA 1) 67 69,ll 71 70,mm 72 8,oB 73 (.bin .geq) 71 72] 73] (.t 74)] (cD 75 (sr [] [4] [mB 4 false] .ret) .skip)))) (.reg false [3,49,50,51] [3,49,50,51] [oC 76 Ba 51 1,mm 51 76]))))
def znQ:LC:=zbQ
theorem zaM:ELq znQ zbQ:=fun _ _ _=>rfl
abbrev zmQ:LC:=(sr [3,34] [3,84] [oC 85 Be 34 9,mm 84 85] (cD 84 (sr [3] [4] [ff 86 2 3,ll 87 86,ff 88 1 3,ll 89 88,oC 90 Be 89 3,oB 91 (.eqb false) 87 90,mm 92 91,sA 102 92 [ff 93 1 3,ll 94 93,oC 95 Bl 94 2,mm 96 95,sO 101 96 [ff 97 0 3,ll 98 97,oA 99 Ln 98,oC 100 Be 99 0] (.t 100)] 101,mm 4 102] .ret) .skip))
def zsM:LC:=zmQ
@[simp] theorem evy143_0:ELq zsM zmQ:=fun _ _ _=>rfl
abbrev zmP:LC:=(sr [3,34] [3,34,46] [oC 47 Be 34 8,mm 46 47] (cD 46 (.seq (sr [3] [3,49,50,51] [ff 48 0 3,ll 49 48,oA 50 Ln 49,mK 51 0] (.block 1 [3] (.loop [3,49,50,51] znQ))) (sr [3] [4] [ff 77 2 3,ll 78 77,ff 79 0 3,ll 80 79,oA 81 Ln 80,oC 82 Be 81 2,oB 83 (.eqb false) 78 82,mm 4 83] .ret)) zsM))
def zsL:LC:=zmP
@[simp] theorem evy143_1:ELq zsL zmP:=fun _ _ _=>rfl
def c143:LC:=(sr [0,1] [2,3] [oA 2 (.box 8) 0,oA 3 (.box 3) 1,mB 4 false] (sr [2,3] [2,3,5,6] [oA 10 (Lt 8) 2,oA 11 (pC 173) 10,mm 9 11,oA 12 (.ext 0) 9,oA 13 (.ext 1) 9,mm 5 12,mm 6 13] (.seq (sr [2,3,5,6] [2,3,29] [ff 14 1 3,ll 15 14,oC 16 Bl 15 0,mm 17 16,sO 22 17 [ff 18 1 3,ll 19 18,mm 20 5,oB 21 Bg 19 20] (.t 21),mm 23 22,sO 29 23 [ff 24 0 3,ll 25 24,oA 26 Ln 25,mm 27 6,oB 28 Bg 26 27] (.t 28)] (cD 29 (sr [] [4] [mB 4 false] .ret) .skip)) (.seq (sr [2,3] [2,3,32] [ff 30 0 3,ll 31 30,oo 32 (.call 96) [.t 31,.c (.clo 174 [] [])]] (cD 32 (sr [] [4] [mB 4 false] .ret) .skip)) (.seq (sr [2,3] [3,34] [ff 33 0 2,ll 34 33] (.block 0 [] (sr [3,34] [3,34,35] [oC 36 Be 34 4,mm 35 36] (cD 35 (sr [3] [4] [ff 37 2 3,ll 38 37,oA 39 .not 38,mm 40 39,sO 45 40 [ff 41 0 3,ll 42 41,oA 43 Ln 42,oC 44 Be 43 0] (.t 44),mm 4 45] .ret) zsL)))) (sr [] [4] [mB 4 true] .ret))))))
def zdO:FI:=⟨2,103,c143,[.tmp 4]⟩
theorem zz3:zh Tryz.prog 143 zdO=true:=by kernel_rfl
def c144:LC:=(sr [0,1,2] [2,3,4] [oA 3 (.box 8) 0,oA 4 (.box 3) 1,mB 6 false] (.seq (sr [2,3,4] [2,4,8] [ff 7 0 3,ll 8 7] (.block 0 [4] (sr [2,4,8] [2,4,8,9] [oC 10 Be 8 8,mm 9 10] (cD 9 (sr [2,4] [6] [ff 11 0 4,ll 12 11,mm 13 2,oB 14 (pC 171) 12 13,mm 6 14] .ret) (sr [2,4,8] [2,4,15] [oC 16 Be 8 9,mm 15 16] (cD 15 (sr [2,4] [6] [ff 17 1 4,ll 18 17,mm 19 2,oB 20 (.bin .shr) 18 19,oC 21 (.bin .and) 20 1,oC 22 Be 21 1,mm 6 22] .ret) .skip)))))) (sr [4] [6] [ff 23 2 4,ll 24 23,mm 6 24] .ret)))
def zl6:FI:=⟨3,25,c144,[.tmp 6]⟩
theorem zz2:zh Tryz.prog 144 zl6=true:=by kernel_rfl
def zgE:LC:=(sr [0,1,7,8] [0,1,7,8,9] [oB 9 Bl 8 7] (.seq (cD 9 .skip (.exit 0)) (.seq (.block 1 [0,1,7,8] (sr [0,1,7,8] [0,1,5,7,8] [mm 10 8,mm 5 10] (sr [0,1,5,7,8] [0,1,5,7,8,16] [mm 11 1,mm 12 0,mm 13 5,oB 14 (iA 1) 12 13,ll 15 14,oB 16 .callv 11 15] (cD 16 (sr [5] [4] [mm 17 5,mm 4 17] .ret) .skip)))) (.reg false [0,1,7,8] [0,1,7,8] [oC 18 Ba 8 1,mm 8 18]))))
def znP:LC:=zgE
theorem ze4:ELq znP zgE:=fun _ _ _=>rfl
def c145:LC:=(sr [0,1] [0,1] [mK 4 0] (.seq (sr [0,1] [0,1,7,8] [mm 6 0,oA 7 Ln 6,mK 8 0] (.block 0 [] (.loop [0,1,7,8] znP))) (sr [] [4] [oo 4 .mv [.c (.int .i64 (-1))]] .ret)))
def zoB:FI:=⟨2,19,c145,[.tmp 4]⟩
theorem zz1:zh Tryz.prog 145 zoB=true:=by kernel_rfl
abbrev zmO:LC:=(sr [2,3] [23] [ff 24 0 2,ll 25 24,oC 26 Bn 25 1,mm 27 26,sA 30 27 [ff 28 2 3,ll 29 28] 29,mm 23 30] (cD 23 (sr [] [4] [oo 31 (.bsl true 1 1 iZ [0]) [kk 0],mm 4 31] .ret) .skip))
def zsK:LC:=zmO
@[simp] theorem evy146_0:ELq zsK zmO:=fun _ _ _=>rfl
abbrev zmN:LC:=(sr [2,3] [2,3,11] [ff 12 0 2,ll 13 12,oC 14 Be 13 9,mm 11 14] (cD 11 (sr [3] [4] [oo 15 (.bsl true 1 1 iZ [0]) [kk 0],oo 16 (.bsl true 1 1 iZ [0]) [kk 1],oo 17 (.bsl true 1 2 iZ [0,1]) [kk 0,kk 1],oo 18 (.bsl true 1 4 nL [0,1,2,3]) [.c nL,.t 15,.t 16,.t 17],ff 19 1 3,ll 20 19,oB 21 (iA 1) 18 20,ll 22 21,mm 4 22] .ret) zsK))
def zsJ:LC:=zmN
@[simp] theorem evy146_1:ELq zsJ zmN:=fun _ _ _=>rfl
def c146:LC:=(sr [0,1] [2,3] [oA 2 (.box 8) 0,oA 3 (.box 3) 1,oo 4 .mv [.c nL]] (.seq (.block 0 [] (sr [2,3] [2,3,5] [ff 6 0 2,ll 7 6,oC 8 Be 7 8,mm 5 8] (cD 5 (sr [3] [4] [ff 9 0 3,ll 10 9,mm 4 10] .ret) zsJ))) (sr [] [4] [oo 4 .mv [.c nL]] .ret)))
def zeM:FI:=⟨2,32,c146,[.tmp 4]⟩
theorem zz0:zh Tryz.prog 146 zeM=true:=by kernel_rfl
abbrev zmM:LC:=(sr [3,87] [3,108] [oC 109 Be 87 9,mm 108 109] (cD 108 (sr [3] [4] [ff 110 2 3,ll 111 110,ff 112 1 3,ll 113 112,oC 114 Be 113 3,oB 115 (.eqb false) 111 114,mm 116 115,sA 126 116 [ff 117 1 3,ll 118 117,oC 119 Bl 118 2,mm 120 119,sO 125 120 [ff 121 0 3,ll 122 121,oA 123 Ln 122,oC 124 Be 123 0] (.t 124)] 125,mm 4 126] .ret) .skip))
def zsI:LC:=zmM
@[simp] theorem evy147_0:ELq zsI zmM:=fun _ _ _=>rfl
abbrev zmL:LC:=(sr [3,87] [3,87,99] [oC 100 Be 87 8,mm 99 100] (cD 99 (sr [3] [4] [ff 101 2 3,ll 102 101,ff 103 0 3,ll 104 103,oA 105 Ln 104,oC 106 Be 105 2,oB 107 (.eqb false) 102 106,mm 4 107] .ret) zsI))
def zsH:LC:=zmL
@[simp] theorem evy147_1:ELq zsH zmL:=fun _ _ _=>rfl
def zaU:LC:=(.seq (sr [2,3,7] [2,3,7,44] [mm 40 7,ff 41 0 3,ll 42 41,oA 43 Ln 42,oB 44 Bl 40 43] (cD 44 .skip (.exit 1))) (.seq (.block 2 [2,3,7] (st [2,3,7] [2,3,7,85] [ff 47 0 3,ll 48 47,mm 49 7,oB 50 (iA 1) 48 49,ll 51 50,oA 52 (pC 140) 51,oA 53 .not 52,mm 54 53,sO 85 54 [ff 55 0 2,ll 56 55,oC 57 Be 56 8,mm 58 57,sA 84 58 [ff 59 0 3,ll 60 59,mm 61 7,oB 62 (iA 1) 60 61,ll 63 62,oo 64 (pC 101) [.t 63,kk 0,kk 1],oA 65 .not 64,mm 66 65,sO 83 66 [mm 67 7,oC 68 Bg 67 0,mm 69 68,sA 82 69 [ff 70 0 3,ll 71 70,mm 72 7,oB 73 (iA 1) 71 72,ll 74 73,ff 75 0 3,ll 76 75,mm 77 7,oC 78 (.bin .sub) 77 1,oB 79 (iA 1) 76 78,ll 80 79,oB 81 (.bin .leq) 74 80] 81] (.t 82)] 83] (.t 84)] (cD 85 (sr [] [4] [mB 4 false] .ret) .skip))) (.reg false [2,3,7] [2,3,7] [mm 45 7,oC 46 Ba 45 1,mm 7 46])))
def zio:LC:=zaU
theorem zaa:ELq zio zaU:=fun _ _ _=>rfl
abbrev zmK:LC:=(sr [2,3,5,6,9] [2,3,5,6,9,24] [oC 25 Be 9 8,mm 24 25] (cD 24 (.reg false [2,3] [2,3,5,6] [mK 5 1,mK 6 2]) (sr [2,3,5,6,9] [2,3,5,6,26] [oC 27 Be 9 9,mm 26 27] (cD 26 (.reg false [2,3] [2,3,5,6] [mK 5 3,mK 6 1]) .skip))))
def zsG:LC:=zmK
@[simp] theorem evy147_2:ELq zsG zmK:=fun _ _ _=>rfl
abbrev zmJ:LC:=(sr [2,3,5,6,9] [2,3,5,6,9,19] [oC 20 Be 9 4,mm 19 20] (cD 19 (.reg false [2,3,5] [2,3,5,6] [ff 21 1 2,ll 22 21,oC 23 (.bin .sub) 22 1,mm 6 23]) zsG))
def zsF:LC:=zmJ
@[simp] theorem evy147_3:ELq zsF zmJ:=fun _ _ _=>rfl
def c147:LC:=(sr [0,1] [2,3] [oA 2 (.box 8) 0,oA 3 (.box 3) 1,mB 4 false] (sr [2,3] [2,3,5,6] [mK 5 0,mK 6 0] (.seq (sr [2,3,5,6] [2,3,5,6,9] [ff 8 0 2,ll 9 8] (.block 0 [2,3,5,6] (sr [2,3,5,6,9] [2,3,5,6,9,10] [oC 11 Be 9 1,mm 10 11] (cD 10 (.reg false [2,3,6] [2,3,5,6] [ff 12 7 2,ll 13 12,oA 14 Ln 13,mm 5 14]) (sr [2,3,5,6,9] [2,3,5,6,9,15] [oC 16 Be 9 6,mm 15 16] (cD 15 (.reg false [2,3,6] [2,3,5,6] [ff 17 1 2,ll 18 17,mm 5 18]) zsF)))))) (.seq (sr [2,3,5,6] [2,3,39] [ff 28 1 3,ll 29 28,mm 30 5,oo 31 (pC 101) [.t 29,kk 0,.t 30],oA 32 .not 31,mm 33 32,sO 39 33 [ff 34 0 3,ll 35 34,oA 36 Ln 35,mm 37 6,oB 38 Bg 36 37] (.t 38)] (cD 39 (sr [] [4] [mB 4 false] .ret) .skip)) (.seq (sr [2,3] [2,3,7] [mK 7 0] (.block 1 [2,3] (.loop [2,3,7] zio))) (.seq (sr [2,3] [3,87] [ff 86 0 2,ll 87 86] (.block 3 [] (sr [3,87] [3,87,88] [oC 89 Be 87 4,mm 88 89] (cD 88 (sr [3] [4] [ff 90 2 3,ll 91 90,oA 92 .not 91,mm 93 92,sO 98 93 [ff 94 0 3,ll 95 94,oA 96 Ln 95,oC 97 Be 96 0] (.t 97),mm 4 98] .ret) zsH)))) (sr [] [4] [mB 4 true] .ret)))))))
def zbW:FI:=⟨2,127,c147,[.tmp 4]⟩
theorem zzZ:zh Tryz.prog 147 zbW=true:=by kernel_rfl
def c148:LC:=(sr [0] [1] [oA 1 (.box 5) 0,mK 2 0] (.seq (sr [1] [1,5] [oA 3 (Lt 5) 1,oA 4 (pC 131) 3,oC 5 Bg 4 100] (cD 5 (sr [] [2] [mK 2 4] .ret) .skip)) (.seq (sr [1] [1,8] [oA 6 (Lt 5) 1,oA 7 (pC 175) 6,oC 8 Bg 7 12] (cD 8 (sr [] [2] [mK 2 22] .ret) .skip)) (sr [1] [2] [oA 9 (Lt 5) 1,oA 10 (pC 176) 9,mm 2 10] .ret))))
def zl5:FI:=⟨1,11,c148,[.tmp 2]⟩
theorem zzY:zh Tryz.prog 148 zl5=true:=by kernel_rfl
def c149:LC:=(sr [0] [1] [oA 1 (.box 5) 0,oo 2 .mv [.c nL]] (.seq (sr [1] [1,5] [oA 3 (Lt 5) 1,oA 4 (pC 148) 3,oC 5 Bn 4 0] (cD 5 (sr [] [2] [oo 6 (.bsl true 1 0 (.str []) []) [],mm 2 6] .ret) .skip)) (sr [1] [2] [oA 7 (Lt 5) 1,oo 8 (.bsl true 1 0 (.str []) []) [],oB 9 (pC 177) 7 8,mm 2 9] .ret)))
def zrP:FI:=⟨1,10,c149,[.tmp 2]⟩
theorem zzX:zh Tryz.prog 149 zrP=true:=by kernel_rfl
def c150:LC:=(sr [0,1] [1,2] [oA 2 (.box 5) 0,mK 4 0,mK 5 0] (.seq (sr [1,2] [1,2,6] [oA 10 (Lt 5) 2,oA 11 (pC 148) 10,mm 6 11] (sr [1,2,6] [1,2,6,13] [mm 12 6,oC 13 Bn 12 0] (cD 13 (sr [6] [4,5] [mm 14 6,mK 4 0,mm 5 14] .ret) .skip))) (.seq (sr [1,2] [1,2,7] [mm 15 1,oA 16 (pC 178) 15,mm 7 16] (sr [1,2,7] [1,2,7,18] [mm 17 7,oC 18 Bn 17 0] (cD 18 (sr [7] [4,5] [mm 19 7,mK 4 0,mm 5 19] .ret) .skip))) (sr [1,2] [8,9] [oA 21 (Lt 5) 2,mm 22 1,oB 23 (pC 179) 21 22,mm 20 23,oA 24 (.ext 0) 20,oA 25 (.ext 1) 20,mm 8 24,mm 9 25] (sr [8,9] [4,5] [mm 26 8,mm 27 9,mm 4 26,mm 5 27] .ret)))))
def zoA:FI:=⟨2,28,c150,[.tmp 4,.tmp 5]⟩
theorem zzW:zh Tryz.prog 150 zoA=true:=by kernel_rfl
def c151:LC:=(sr [0,1] [0,1] [oo 4 .mv [.c nL]] (sr [0,1] [4] [mm 5 0,oo 6 (.bld [(.str []),iZ,iZ] [(0,1),(1,1),(2,1)]) [.c (.str [120]),kk 1,.t 5],mm 7 1,oo 8 (.bld [(.str []),iZ,iZ] [(0,1),(1,1),(2,1)]) [.c (.str [121]),kk 1,.t 7],oo 9 (.bsl true 3 2 (.agg [(.str []),iZ,iZ]) [0,1]) [.t 6,.t 8],mm 4 9] .ret))
def zvr:FI:=⟨2,10,c151,[.tmp 4]⟩
theorem zzV:zh Tryz.prog 151 zvr=true:=by kernel_rfl
def zxR:LC:=(sr [4,6,18,19,20] [4,6,18,19,20,21] [oB 21 Bl 20 19] (.seq (cD 21 .skip (.exit 0)) (.seq (.block 1 [4,6,18,19,20] (sr [4,6,18,19,20] [4,6,8,18,19,20] [oB 22 (iA 2) 18 20,oA 23 (Lt 2) 22,oo 8 (.box 2) [.c (.agg [iZ,iZ])],sT 2 8 23] (.reg true [4,6,8,18,19,20] [4,6,18,19,20] [ff 24 1 6,ll 25 24,ff 26 0 8,ll 27 26,ff 28 1 6,ll 29 28,ff 30 0 8,ll 31 30,oB 32 (iA 1) 29 31,ll 33 32,ff 34 1 8,ll 35 34,oo 36 (.bsl true 1 1 iZ [0]) [.t 35],oo 37 (.appA 1) [.t 33,.t 36,.t 24,.t 26],oB 38 (iA 1) 25 27,sT 1 38 37]))) (.reg false [4,6,18,19,20] [4,6,18,19,20] [oC 39 Ba 20 1,mm 20 39]))))
def zxe:LC:=zxR
def c155:LC:=(sr [0,1] [0,1,4] [oo 4 (.box 2) [.c (.agg [iZ,nL])],mB 5 false] (.seq (sr [0,1,4] [0,1,4,12] [mm 9 0,mm 10 1,oB 11 (pC 190) 9 10,oC 12 Bn 11 0] (cD 12 .any .skip)) (sr [0,1,4] [1,4,6] [mm 14 0,mm 15 0,oo 16 (.mksl 1 nL) [.t 15,.t 15],oo 17 (.bld [iZ,nL] [(0,1),(1,1)]) [.t 14,.t 16],oo 6 (.box 2) [.c (.agg [iZ,nL])],sT 2 6 17] (.seq (sr [1,4,6] [4,6,18,19,20] [mm 18 1,oA 19 Ln 18,mK 20 0] (.block 0 [4,6] (.loop [4,6,18,19,20] zxe))) (sr [4,6] [4,5] [oA 40 (Lt 2) 6,sT 2 4 40,mB 5 true] .ret)))))
def zvq:FI:=⟨2,41,c155,[.cell 4 true 2,.tmp 5]⟩
theorem zzU:zh Tryz.prog 155 zvq=true:=by kernel_rfl
def zja:LC:=(sr [0,1,7,8] [0,1,7,8,9] [oB 9 Bl 8 7] (.seq (cD 9 .skip (.exit 0)) (.seq (.block 1 [0,1,7,8] (sr [0,1,7,8] [0,1,5,7,8] [mm 10 8,mm 5 10] (sr [0,1,5,7,8] [0,1,5,7,8,16] [mm 11 1,mm 12 0,mm 13 5,oB 14 (iA 1) 12 13,ll 15 14,oB 16 Be 11 15] (cD 16 (sr [5] [4] [mm 17 5,mm 4 17] .ret) .skip)))) (.reg false [0,1,7,8] [0,1,7,8] [oC 18 Ba 8 1,mm 8 18]))))
def znO:LC:=zja
theorem zhr:ELq znO zja:=fun _ _ _=>rfl
def c156:LC:=(sr [0,1] [0,1] [mK 4 0] (.seq (sr [0,1] [0,1,7,8] [mm 6 0,oA 7 Ln 6,mK 8 0] (.block 0 [] (.loop [0,1,7,8] znO))) (sr [] [4] [oo 4 .mv [.c (.int .i64 (-1))]] .ret)))
def zoz:FI:=⟨2,19,c156,[.tmp 4]⟩
theorem zzT:zh Tryz.prog 156 zoz=true:=by kernel_rfl
def c157:LC:=(sr [0,1] [2,3] [oA 2 (.box 2) 0,oA 3 (.box 1) 1,oo 4 .mv [.c .nilf]] (sr [2,3] [4] [oB 5 (.clo 191 0) 2 3,mm 4 5] .ret))
def zvp:FI:=⟨2,6,c157,[.tmp 4]⟩
theorem zzS:zh Tryz.prog 157 zvp=true:=by kernel_rfl
def c158:LC:=(sr [] [0] [oo 0 (.box 88) [.c (.agg [iZ,iZ,iZ,iZ,iZ,nL,.nilf,.nilf,iZ,iZ,iZ,iZ,iZ,nL,.nilf,.nilf,iZ,iZ,iZ,iZ,iZ,nL,.nilf,.nilf,iZ,iZ,iZ,iZ,iZ,nL,.nilf,.nilf,iZ,iZ,iZ,iZ,iZ,nL,.nilf,.nilf,iZ,iZ,iZ,iZ,iZ,nL,.nilf,.nilf,iZ,iZ,iZ,iZ,iZ,nL,.nilf,.nilf,iZ,iZ,iZ,iZ,iZ,nL,.nilf,.nilf,iZ,iZ,iZ,iZ,iZ,nL,.nilf,.nilf,iZ,iZ,iZ,iZ,iZ,nL,.nilf,.nilf,iZ,iZ,iZ,iZ,iZ,nL,.nilf,.nilf])]] (sr [0] [0,1,2] [oo 5 (.bsl true 1 1 (.str []) [0]) [.c (.str [120])],oo 6 (.bsl true 1 2 (.str []) [0,1]) [.c (.str [120]),.c (.str [121])],mm 1 5,mm 2 6] (sr [0,1,2] [0,1,2,3] [oo 3 (.box 1) [.c .nilf],.op none (.store 1) [.t 3,.c (.clo 192 [] [])]] (sr [0,1,2,3] [0,1,2,3,4] [oo 4 .mv [.c (.clo 193 [] [])]] (sr [0,1,2,3,4] [0] [mm 7 4,oo 8 (.bld [iZ,iZ,iZ,iZ,iZ,nL,.nilf,.nilf] [(1,1),(6,1),(7,1)]) [kk 1,.c (.clo 194 [] []),.t 7],mm 9 1,mm 10 4,oo 11 (.bld [iZ,iZ,iZ,iZ,iZ,nL,.nilf,.nilf] [(0,1),(1,1),(4,1),(5,1),(7,1),(6,1)]) [kk 1,kk 1,kk 1,.t 9,.t 10,.c (.clo 195 [] [])],mm 12 1,mm 13 4,oo 14 (.bld [iZ,iZ,iZ,iZ,iZ,nL,.nilf,.nilf] [(0,1),(1,1),(4,1),(5,1),(7,1),(6,1)]) [kk 1,kk 1,kk 2,.t 12,.t 13,.c (.clo 196 [] [])],oo 15 (.bld [iZ,iZ,iZ,iZ,iZ,nL,.nilf,.nilf] [(0,1),(1,1),(2,1),(3,1),(6,1),(7,1)]) [kk 1,kk 1,kk 1,kk 100,.c (.clo 197 [] []),.c (.clo 198 [] [])],mm 16 4,oo 17 (.bld [iZ,iZ,iZ,iZ,iZ,nL,.nilf,.nilf] [(0,1),(1,1),(3,1),(7,1),(6,1)]) [kk 1,kk 1,kk 100,.t 16,.c (.clo 200 [] [])],mm 18 4,oo 19 (.bld [iZ,iZ,iZ,iZ,iZ,nL,.nilf,.nilf] [(0,1),(1,1),(3,1),(7,1),(6,1)]) [kk 1,kk 1,kk 200,.t 18,.c (.clo 201 [] [])],mm 20 1,mm 21 4,oo 22 (.bld [iZ,iZ,iZ,iZ,iZ,nL,.nilf,.nilf] [(0,1),(1,1),(4,1),(5,1),(7,1),(6,1)]) [kk 1,kk 2,kk 2,.t 20,.t 21,.c (.clo 202 [] [])],oA 23 (.clo 204 0) 3,oo 24 (.bld [iZ,iZ,iZ,iZ,iZ,nL,.nilf,.nilf] [(0,1),(1,1),(7,1),(6,1)]) [kk 2,kk 1,.c (.clo 203 [] []),.t 23],mm 25 2,oo 26 (.bld [iZ,iZ,iZ,iZ,iZ,nL,.nilf,.nilf] [(0,1),(1,1),(4,1),(5,1),(6,1),(7,1)]) [kk 2,kk 1,kk 1,.t 25,.c (.clo 205 [] []),.c (.clo 206 [] [])],mm 27 4,oo 28 (.bld [iZ,iZ,iZ,iZ,iZ,nL,.nilf,.nilf] [(0,1),(7,1),(6,1)]) [kk 1,.t 27,.c (.clo 207 [] [])],oo 29 (.bld [iZ,iZ,iZ,iZ,iZ,nL,.nilf,.nilf,iZ,iZ,iZ,iZ,iZ,nL,.nilf,.nilf,iZ,iZ,iZ,iZ,iZ,nL,.nilf,.nilf,iZ,iZ,iZ,iZ,iZ,nL,.nilf,.nilf,iZ,iZ,iZ,iZ,iZ,nL,.nilf,.nilf,iZ,iZ,iZ,iZ,iZ,nL,.nilf,.nilf,iZ,iZ,iZ,iZ,iZ,nL,.nilf,.nilf,iZ,iZ,iZ,iZ,iZ,nL,.nilf,.nilf,iZ,iZ,iZ,iZ,iZ,nL,.nilf,.nilf,iZ,iZ,iZ,iZ,iZ,nL,.nilf,.nilf,iZ,iZ,iZ,iZ,iZ,nL,.nilf,.nilf] [(8,8),(16,8),(24,8),(32,8),(40,8),(48,8),(56,8),(64,8),(72,8),(80,8)]) [.t 8,.t 11,.t 14,.t 15,.t 17,.t 19,.t 22,.t 24,.t 26,.t 28],sT 88 0 29] .ret)))))
def zvo:FI:=⟨0,30,c158,[.cell 0 true 88]⟩
theorem zzR:zh Tryz.prog 158 zvo=true:=by kernel_rfl
def zgD:LC:=(sr [0,1,7,8] [0,1,7,8,9] [oB 9 Bl 8 7] (.seq (cD 9 .skip (.exit 0)) (.seq (.block 1 [0,1,7,8] (sr [0,1,7,8] [0,1,5,7,8] [mm 10 8,mm 5 10] (sr [0,1,5,7,8] [0,1,5,7,8,16] [mm 11 1,mm 12 0,mm 13 5,oB 14 (iA 5) 12 13,oA 15 (Lt 5) 14,oB 16 .callv 11 15] (cD 16 (sr [5] [4] [mm 17 5,mm 4 17] .ret) .skip)))) (.reg false [0,1,7,8] [0,1,7,8] [oC 18 Ba 8 1,mm 8 18]))))
def znN:LC:=zgD
theorem ze3:ELq znN zgD:=fun _ _ _=>rfl
def c159:LC:=(sr [0,1] [0,1] [mK 4 0] (.seq (sr [0,1] [0,1,7,8] [mm 6 0,oA 7 Ln 6,mK 8 0] (.block 0 [] (.loop [0,1,7,8] znN))) (sr [] [4] [oo 4 .mv [.c (.int .i64 (-1))]] .ret)))
def zoy:FI:=⟨2,19,c159,[.tmp 4]⟩
theorem zzQ:zh Tryz.prog 159 zoy=true:=by kernel_rfl
def c161:LC:=(sr [0,1,2] [0,1,2,10] [mm 6 0,oA 7 .nilchk 6,ff 8 12 7,ll 9 8,oC 10 Be 9 0] (cD 10 (.reg true [0,1,2] [] [mm 11 0,oA 12 .nilchk 11,ff 13 11 12,ll 14 13,mm 15 1,mm 16 0,oA 17 .nilchk 16,ff 18 11 17,ll 19 18,mm 20 1,oB 21 (iA 1) 19 20,ll 22 21,mm 23 2,oo 24 (.bsl true 1 1 iZ [0]) [.t 23],oo 25 (.appA 1) [.t 22,.t 24,.t 13],oB 26 (iA 1) 14 15,sT 1 26 25]) .skip))
def zox:FI:=⟨3,27,c161,[]⟩
theorem zzP:zh Tryz.prog 161 zox=true:=by kernel_rfl
def c162:LC:=(sr [0,1,2] [0,1,2] [mK 6 0] (sr [0,1,2] [0,1,2,7] [mm 12 0,oA 13 .nilchk 12,ff 14 0 13,ff 15 0 14,ll 16 15,oA 17 (pC 112) 16,mm 11 17,oA 18 (.ext 0) 11,oA 19 (.ext 1) 11,oo 7 (.box 8) [.c (.agg [iZ,iZ,iZ,iZ,iZ,nL,.nilf,.nilf])],sT 8 7 18,mm 8 19] (st [0,1,2,7] [0,9,10] [mm 21 0,oA 22 .nilchk 21,ff 23 0 22,ff 24 2 23,oA 25 (Lt 5) 24,ff 26 5 7,ll 27 26,mm 28 1,mm 29 2,oo 30 (.bsl true 1 2 iZ [0,1]) [.t 28,.t 29],oB 31 (pC 168) 27 30,oB 32 (pC 208) 25 31,mm 20 32,oA 33 (.ext 0) 20,oA 34 (.ext 1) 20,mm 9 33,mm 10 34] (.seq (sr [0,9,10] [0,9,10,39] [mm 35 0,oA 36 .nilchk 35,ff 37 12 36,ll 38 37,oC 39 Be 38 0] (cD 39 (.reg false [0,9,10] [9] [mm 40 0,mm 41 10,oA 42 .nilchk 40,ff 43 12 42,sT 1 43 41]) .skip)) (sr [9] [6] [mm 44 9,mm 6 44] .ret)))))
def zrO:FI:=⟨3,45,c162,[.tmp 6]⟩
theorem zzO:zh Tryz.prog 162 zrO=true:=by kernel_rfl
def zxQ:LC:=(sr [0,1,7,8] [0,1,7,8,9] [oB 9 Bl 8 7] (.seq (cD 9 .skip (.exit 0)) (.seq (.block 1 [0,1,7,8] (sr [0,1,7,8] [0,1,5,7,8] [mm 10 8,mm 5 10] (sr [0,1,5,7,8] [0,1,5,7,8,16] [mm 11 1,mm 12 0,mm 13 5,oB 14 (iA 1) 12 13,ll 15 14,oB 16 .callv 11 15] (cD 16 .any .skip)))) (.reg false [0,1,7,8] [0,1,7,8] [oC 18 Ba 8 1,mm 8 18]))))
def zxd:LC:=zxQ
def c163:LC:=(sr [0,1] [0,1] [mK 4 0] (.seq (sr [0,1] [0,1,7,8] [mm 6 0,oA 7 Ln 6,mK 8 0] (.block 0 [] (.loop [0,1,7,8] zxd))) (sr [] [4] [oo 4 .mv [.c (.int .i64 (-1))]] .ret)))
def zvn:FI:=⟨2,19,c163,[.tmp 4]⟩
theorem zzN:zh Tryz.prog 163 zvn=true:=by kernel_rfl
def zeU:LC:=(.reg false [2,15] [2,5] [oo 5 (.box 5) [.c (.agg [iZ,iZ,(.str []),iZ,nL])],sT 5 5 15])
def zjv:LC:=zeU
theorem ziQ:ELq zjv zeU:=fun _ _ _=>rfl
def zeS:LC:=(.block 1 [] (sr [2,5] [2,6] [oA 16 (Lt 5) 5,oA 17 (pC 211) 16,mm 6 17] (sr [2,6] [2,6,19] [mm 18 6,oC 19 Bn 18 0] (cD 19 (sr [2,6] [] [mm 20 6,sT 1 2 20] .ret) .skip))))
def zju:LC:=zeS
theorem ziO:ELq zju zeS:=fun _ _ _=>rfl
def c164:LC:=(sr [0] [1,2] [oA 1 (.box 5) 0,oo 2 (.box 1) [kk 0]] (sr [1,2] [1,2,3] [oo 3 (.box 1) [kk 0],.op none (.store 1) [.t 3,kk 0]] (sr [1,2,3] [1,2,3,4] [oA 7 (Lt 5) 1,oo 8 (.call 209) [.t 7,kk 1,.t 3],mm 4 8] (.seq (sr [1,2,3,4] [1,2,4,10] [ll 9 3,oC 10 Bg 9 100] (cD 10 (sr [2] [2] [.op none (.store 1) [.t 2,kk 4]] .ret) .skip)) (.seq (sr [1,2,4] [1,2,12] [mm 11 4,oC 12 Bg 11 12] (cD 12 (sr [2] [2] [.op none (.store 1) [.t 2,kk 22]] .ret) .skip)) (.seq (sr [1,2] [2,14] [oA 13 (Lt 5) 1,oA 14 (.call 210) 13] (.block 0 [2] (.rng (.t 14) [15] [2] zjv zju))) (sr [2] [2] [.op none (.store 1) [.t 2,kk 0]] .ret)))))))
def zjM:FI:=⟨1,21,c164,[.cell 2 false 1]⟩
theorem zzM:zh Tryz.prog 164 zjM=true:=by kernel_rfl
def zeT:LC:=(.reg false [3,10] [3,4] [oo 4 (.box 5) [.c (.agg [iZ,iZ,(.str []),iZ,nL])],sT 5 4 10])
def zd8:LC:=zeT
theorem ziP:ELq zd8 zeT:=fun _ _ _=>rfl
def zeR:LC:=(.block 1 [] (sr [3,4] [3,4,13] [ff 11 0 4,ll 12 11,oC 13 Be 12 2] (cD 13 (.reg false [3,4] [] [ll 14 3,ff 15 2 4,ll 16 15,oo 17 (.bsl true 1 1 (.str []) [0]) [.t 16],oB 18 (.app 1) 14 17,sT 1 3 18]) .skip)))
def zd7:LC:=zeR
theorem ziN:ELq zd7 zeR:=fun _ _ _=>rfl
def c165:LC:=(sr [0] [1,2] [oA 1 (.box 5) 0,oo 2 .mv [.c nL]] (.seq (sr [1,2] [1,2,7] [oA 5 (Lt 5) 1,oA 6 (pC 164) 5,oC 7 Bn 6 0] (cD 7 (sr [] [2] [oo 2 .mv [.c nL]] .ret) .skip)) (sr [1,2] [1,2,3] [oo 3 (.box 1) [.c nL]] (.seq (sr [1,2,3] [2,3,9] [oA 8 (Lt 5) 1,oA 9 (.call 210) 8] (.block 0 [3] (.rng (.t 9) [10] [2,3] zd8 zd7))) (sr [3] [3] [ll 19 3,oA 20 (.call 212) 19] (sr [3] [2] [ll 21 3,oA 22 (.call 213) 21,mm 2 22] .ret))))))
def zrN:FI:=⟨1,23,c165,[.tmp 2]⟩
theorem zzL:zh Tryz.prog 165 zrN=true:=by kernel_rfl
def c166:LC:=(sr [0,1] [0,1] [mB 4 false] (sr [0,1] [4] [mm 5 0,mm 6 1,oB 7 (pC 214) 5 6,oC 8 (.bin .geq) 7 0,mm 4 8] .ret))
def zrM:FI:=⟨2,9,c166,[.tmp 4]⟩
theorem zzK:zh Tryz.prog 166 zrM=true:=by kernel_rfl
def c167:LC:=(sr [0,1] [1,2] [oA 2 (.box 5) 0,mK 4 0,mK 5 0] (.seq (sr [1,2] [1,2,6] [oA 7 (Lt 5) 2,oA 8 (pC 164) 7,mm 6 8] (sr [1,2,6] [1,2,6,10] [mm 9 6,oC 10 Bn 9 0] (cD 10 (sr [6] [4,5] [mm 11 6,mK 4 0,mm 5 11] .ret) .skip))) (.seq (sr [1,2] [1,2,14] [mm 12 1,oA 13 (pC 215) 12,oA 14 .not 13] (cD 14 (sr [] [4,5] [mK 4 0,mK 5 1] .ret) .skip)) (sr [1,2] [4,5] [oA 15 (Lt 5) 2,mm 16 1,oB 17 (pC 216) 15 16,oA 18 (.ext 0) 17,oA 19 (.ext 1) 17,mm 4 18,mm 5 19] .ret))))
def zow:FI:=⟨2,20,c167,[.tmp 4,.tmp 5]⟩
theorem zzJ:zh Tryz.prog 167 zow=true:=by kernel_rfl
def ztz:LC:=(sr [1,5,8,9,10] [1,5,8,9,10,11] [oB 11 Bl 10 9] (.seq (cD 11 .skip (.exit 0)) (.seq (.block 1 [1,5,8,9,10] (sr [1,5,8,9,10] [1,5,6,7,8,9,10] [mm 12 10,oB 13 (iA 1) 8 10,ll 14 13,mm 6 12,mm 7 14] (.reg false [1,5,6,7,8,9,10] [1,5,8,9,10] [mm 15 5,mm 16 7,mm 17 1,mm 18 6,oB 19 (iA 1) 17 18,ll 20 19,oo 21 (.bld [(.str []),iZ,iZ] [(0,1),(1,1),(2,1)]) [.t 16,kk 1,.t 20],oo 22 (.bsl true 3 1 (.agg [(.str []),iZ,iZ]) [0]) [.t 21],oB 23 (.app 3) 15 22,mm 5 23]))) (.reg false [1,5,8,9,10] [1,5,8,9,10] [oC 24 Ba 10 1,mm 10 24]))))
def ztm:LC:=ztz
theorem evl168_0:ELq ztm ztz:=fun _ _ _=>rfl
def c168:LC:=(sr [0,1] [0,1] [oo 4 .mv [.c nL]] (sr [0,1] [0,1,5] [oo 5 .mv [.c nL]] (.seq (sr [0,1,5] [1,5,8,9,10] [mm 8 0,oA 9 Ln 8,mK 10 0] (.block 0 [5] (.loop [1,5,8,9,10] ztm))) (sr [5] [4] [mm 25 5,mm 4 25] .ret))))
def zvm:FI:=⟨2,26,c168,[.tmp 4]⟩
theorem zzI:zh Tryz.prog 168 zvm=true:=by kernel_rfl
def c169:LC:=(sr [0,1] [1,2] [oA 2 (.box 5) 0,mK 4 0,mK 5 0] (.seq (sr [1,2] [1,2,7] [oA 11 (Lt 5) 2,mm 12 1,oB 13 (pC 150) 11 12,mm 10 13,oA 14 (.ext 0) 10,oA 15 (.ext 1) 10,mm 6 14,mm 7 15] (sr [1,2,7] [1,2,7,17] [mm 16 7,oC 17 Bn 16 0] (cD 17 (sr [7] [4,5] [mm 18 7,mK 4 0,mm 5 18] .ret) .skip))) (sr [1,2] [8,9] [oA 20 (Lt 5) 2,mm 21 1,oB 22 (pC 217) 20 21,mm 19 22,oA 23 (.ext 0) 19,oA 24 (.ext 1) 19,mm 8 23,mm 9 24] (sr [8,9] [4,5] [mm 25 8,mm 26 9,mm 4 25,mm 5 26] .ret))))
def zov:FI:=⟨2,27,c169,[.tmp 4,.tmp 5]⟩
theorem zzH:zh Tryz.prog 169 zov=true:=by kernel_rfl
def zi9:LC:=(.seq (sr [1,2,5] [1,2,5,12] [mm 8 5,ff 9 4 2,ll 10 9,oA 11 Ln 10,oB 12 Bl 8 11] (cD 12 .skip (.exit 0))) (.seq (.block 1 [1,2,5] (.seq (sr [1,2,5] [1,2,5,16] [mm 15 1,oC 16 Bg 15 100] (cD 16 (sr [1] [4] [mm 17 1,mm 4 17] .ret) .skip)) (.reg false [1,2,5] [1,2,5] [ff 18 4 2,ll 19 18,mm 20 5,oB 21 (iA 5) 19 20,oA 22 (Lt 5) 21,mm 23 1,oB 24 (pC 170) 22 23,mm 1 24]))) (.reg false [1,2,5] [1,2,5] [mm 13 5,oC 14 Ba 13 1,mm 5 14])))
def znM:LC:=zi9
theorem zhq:ELq znM zi9:=fun _ _ _=>rfl
def c170:LC:=(sr [0,1] [1,2] [oA 2 (.box 5) 0,mK 4 0] (sr [1,2] [1,2] [mm 6 1,oC 7 Ba 6 1,mm 1 7] (.seq (sr [1,2] [1,2,5] [mK 5 0] (.block 0 [1] (.loop [1,2,5] znM))) (sr [1] [4] [mm 25 1,mm 4 25] .ret))))
def zrL:FI:=⟨2,26,c170,[.tmp 4]⟩
theorem zzG:zh Tryz.prog 170 zrL=true:=by kernel_rfl
def c171:LC:=(sr [0,1] [0,1] [mB 4 false] (sr [0,1] [4] [mm 5 0,mm 6 1,oB 7 (pC 156) 5 6,oC 8 (.bin .geq) 7 0,mm 4 8] .ret))
def zrK:FI:=⟨2,9,c171,[.tmp 4]⟩
theorem zzF:zh Tryz.prog 171 zrK=true:=by kernel_rfl
def c172:LC:=(sr [0] [0] [mB 2 false] (sr [0] [2] [mm 3 0,oo 4 (pC 124) [.t 3,.c (.int .i64 (-1099511627776)),kk 1099511627776],oA 5 .not 4,mm 2 5] .ret))
def zrJ:FI:=⟨1,6,c172,[.tmp 2]⟩
theorem zzE:zh Tryz.prog 172 zrJ=true:=by kernel_rfl
abbrev zmI:LC:=(sr [1,5] [1,19] [oC 20 Be 5 4,mm 19 20] (cD 19 (st [1] [2,3] [ff 21 1 1,ll 22 21,oC 23 (.bin .sub) 22 1,mK 2 0,mm 3 23] .ret) .skip))
def zsE:LC:=zmI
@[simp] theorem evy173_0:ELq zsE zmI:=fun _ _ _=>rfl
abbrev zmH:LC:=(sr [1,5] [1,5,15] [oC 16 Be 5 8,mm 15 16] (cD 15 (sr [] [2,3] [mK 2 1,mK 3 2] .ret) (sr [1,5] [1,5,17] [oC 18 Be 5 9,mm 17 18] (cD 17 (sr [] [2,3] [mK 2 3,mK 3 1] .ret) zsE))))
def zsD:LC:=zmH
@[simp] theorem evy173_1:ELq zsD zmH:=fun _ _ _=>rfl
abbrev zmG:LC:=(sr [1,5] [1,5,11] [oC 12 Be 5 6,mm 11 12] (cD 11 (sr [1] [2,3] [ff 13 1 1,ll 14 13,mm 2 14,mK 3 0] .ret) zsD))
def zsC:LC:=zmG
@[simp] theorem evy173_2:ELq zsC zmG:=fun _ _ _=>rfl
def c173:LC:=(sr [0] [1] [oA 1 (.box 8) 0,mK 2 0,mK 3 0] (.seq (sr [1] [1,5] [ff 4 0 1,ll 5 4] (.block 0 [] (sr [1,5] [1,5,6] [oC 7 Be 5 1,mm 6 7] (cD 6 (sr [1] [2,3] [ff 8 7 1,ll 9 8,oA 10 Ln 9,mm 2 10,mK 3 0] .ret) zsC)))) (sr [] [2,3] [mK 2 0,mK 3 0] .ret)))
def zhc:FI:=⟨1,24,c173,[.tmp 2,.tmp 3]⟩
theorem zzD:zh Tryz.prog 173 zhc=true:=by kernel_rfl
def c174:LC:=(sr [0] [0] [mB 2 false] (sr [0] [2] [mm 3 0,oA 4 (pC 116) 3,oA 5 .not 4,mm 2 5] .ret))
def zrI:FI:=⟨1,6,c174,[.tmp 2]⟩
theorem zzC:zh Tryz.prog 174 zrI=true:=by kernel_rfl
def zi8:LC:=(.seq (sr [1,3,4] [1,3,4,10] [mm 6 4,ff 7 4 1,ll 8 7,oA 9 Ln 8,oB 10 Bl 6 9] (cD 10 .skip (.exit 0))) (.seq (.block 1 [1,3,4] (sr [1,3,4] [1,3,4,5] [ff 13 4 1,ll 14 13,mm 15 4,oB 16 (iA 5) 14 15,oA 17 (Lt 5) 16,oA 18 (pC 175) 17,mm 5 18] (sr [1,3,4,5] [1,3,4,5,21] [mm 19 5,mm 20 3,oB 21 Bg 19 20] (cD 21 (.reg false [1,4,5] [1,3,4] [mm 22 5,mm 3 22]) .skip)))) (.reg false [1,3,4] [1,3,4] [mm 11 4,oC 12 Ba 11 1,mm 4 12])))
def znL:LC:=zi8
theorem zhp:ELq znL zi8:=fun _ _ _=>rfl
def c175:LC:=(sr [0] [1] [oA 1 (.box 5) 0,mK 2 0] (sr [1] [1,3] [mK 3 0] (.seq (sr [1,3] [1,3,4] [mK 4 0] (.block 0 [3] (.loop [1,3,4] znL))) (sr [3] [2] [mm 23 3,oC 24 Ba 23 1,mm 2 24] .ret))))
def zrH:FI:=⟨1,25,c175,[.tmp 2]⟩
theorem zzB:zh Tryz.prog 175 zrH=true:=by kernel_rfl
def zi7:LC:=(.seq (sr [1,4] [1,4,15] [mm 11 4,ff 12 4 1,ll 13 12,oA 14 Ln 13,oB 15 Bl 11 14] (cD 15 .skip (.exit 0))) (.seq (.block 1 [1,4] (sr [1,4] [1,4,5] [ff 18 4 1,ll 19 18,mm 20 4,oB 21 (iA 5) 19 20,oA 22 (Lt 5) 21,oA 23 (pC 176) 22,mm 5 23] (sr [1,4,5] [1,4,5,25] [mm 24 5,oC 25 Bn 24 0] (cD 25 (sr [5] [2] [mm 26 5,mm 2 26] .ret) .skip)))) (.reg false [1,4] [1,4] [mm 16 4,oC 17 Ba 16 1,mm 4 17])))
def znK:LC:=zi7
theorem zho:ELq znK zi7:=fun _ _ _=>rfl
def c176:LC:=(sr [0] [1] [oA 1 (.box 5) 0,mK 2 0] (.seq (sr [1] [1,3] [oA 6 (Lt 5) 1,oA 7 (pC 218) 6,mm 3 7] (sr [1,3] [1,3,9] [mm 8 3,oC 9 Bn 8 0] (cD 9 (sr [3] [2] [mm 10 3,mm 2 10] .ret) .skip))) (.seq (sr [1] [1,4] [mK 4 0] (.block 0 [] (.loop [1,4] znK))) (sr [] [2] [mK 2 0] .ret))))
def zl4:FI:=⟨1,27,c176,[.tmp 2]⟩
theorem zzA:zh Tryz.prog 176 zl4=true:=by kernel_rfl
def zlr:LC:=(.seq (sr [1,2,5] [1,2,5,17] [mm 13 5,ff 14 4 2,ll 15 14,oA 16 Ln 15,oB 17 Bl 13 16] (cD 17 .skip (.exit 0))) (.seq (.block 1 [1,2,5] (.reg false [1,2,5] [1,2,5] [ff 20 4 2,ll 21 20,mm 22 5,oB 23 (iA 5) 21 22,oA 24 (Lt 5) 23,mm 25 1,oB 26 (pC 177) 24 25,mm 1 26])) (.reg false [1,2,5] [1,2,5] [mm 18 5,oC 19 Ba 18 1,mm 5 19])))
def znJ:LC:=zlr
theorem zle:ELq znJ zlr:=fun _ _ _=>rfl
def c177:LC:=(sr [0,1] [1,2] [oA 2 (.box 5) 0,oo 4 .mv [.c nL]] (.seq (sr [1,2] [1,2,8] [ff 6 0 2,ll 7 6,oC 8 Be 7 2] (cD 8 (sr [1,2] [4] [mm 9 1,ff 10 2 2,ll 11 10,oB 12 (pC 219) 9 11,mm 4 12] .ret) .skip)) (.seq (sr [1,2] [1,2,5] [mK 5 0] (.block 0 [1] (.loop [1,2,5] znJ))) (sr [1] [4] [mm 27 1,mm 4 27] .ret))))
def zou:FI:=⟨2,28,c177,[.tmp 4]⟩
theorem zzz:zh Tryz.prog 177 zou=true:=by kernel_rfl
def zi6:LC:=(.seq (sr [0,3] [0,3,11] [mm 8 3,mm 9 0,oA 10 Ln 9,oB 11 Bl 8 10] (cD 11 .skip (.exit 0))) (.seq (.block 1 [0,3] (sr [0,3] [0,3,4] [mm 14 0,mm 15 3,oB 16 (iA 3) 14 15,oA 17 (Lt 3) 16,oo 4 (.box 3) [.c (.agg [(.str []),iZ,iZ])],sT 3 4 17] (.seq (st [0,3,4] [0,3,4,46] [ff 18 0 4,ll 19 18,oA 20 (pC 220) 19,oA 21 .not 20,mm 22 21,sO 36 22 [mm 23 3,oC 24 Bg 23 0,mm 25 24,sA 35 25 [mm 26 0,mm 27 3,oC 28 (.bin .sub) 27 1,oB 29 (iA 3) 26 28,ff 30 0 29,ll 31 30,ff 32 0 4,ll 33 32,oB 34 (.bin .geq) 31 33] 34] (.t 35),mm 37 36,sO 46 37 [ff 38 1 4,ll 39 38,oC 40 Bn 39 1,mm 41 40,sA 45 41 [ff 42 1 4,ll 43 42,oC 44 Bn 43 2] 44] (.t 45)] (cD 46 (sr [] [2] [mK 2 1] .ret) .skip)) (sr [0,3,4] [0,3,69] [ff 47 2 4,ll 48 47,oo 49 Bl [.t 48,.c (.int .i64 (-1099511627776))],mm 50 49,sO 54 50 [ff 51 2 4,ll 52 51,oC 53 Bg 52 1099511627776] (.t 53),mm 55 54,sO 69 55 [ff 56 1 4,ll 57 56,oC 58 Be 57 2,mm 59 58,sA 63 59 [ff 60 2 4,ll 61 60,oC 62 Bn 61 0] 62,mm 64 63,sA 68 64 [ff 65 2 4,ll 66 65,oC 67 Bn 66 1] 67] (.t 68)] (cD 69 (sr [] [2] [mK 2 1] .ret) .skip))))) (.reg false [0,3] [0,3] [mm 12 3,oC 13 Ba 12 1,mm 3 13])))
def znI:LC:=zi6
theorem zhn:ELq znI zi6:=fun _ _ _=>rfl
def c178:LC:=(sr [0] [0] [mK 2 0] (.seq (sr [0] [0,7] [mm 5 0,oA 6 Ln 5,oC 7 Bg 6 64] (cD 7 (sr [] [2] [mK 2 1] .ret) .skip)) (.seq (sr [0] [0,3] [mK 3 0] (.block 0 [] (.loop [0,3] znI))) (sr [] [2] [mK 2 0] .ret))))
def zrG:FI:=⟨1,70,c178,[.tmp 2]⟩
theorem zzy:zh Tryz.prog 178 zrG=true:=by kernel_rfl
def zcv:LC:=(.seq (sr [2,6,12,13,14] [2,6,12,13,14,85] [mm 82 14,mm 83 6,oA 84 Ln 83,oB 85 Bl 82 84] (cD 85 .skip (.exit 2))) (.seq (.block 3 [2,6,12,13,14] (sr [2,6,12,13,14] [2,6,12,13,14,93] [mm 88 6,mm 89 14,oB 90 (iA 1) 88 89,ll 91 90,mm 92 13,oB 93 Bn 91 92] (cD 93 (sr [] [4,5] [mK 4 0,mK 5 15] .ret) .skip))) (.reg false [2,6,12,13,14] [2,6,12,13,14] [mm 86 14,oC 87 Ba 86 1,mm 14 87])))
def znH:LC:=zcv
theorem zbk:ELq znH zcv:=fun _ _ _=>rfl
def zc0:LC:=(.seq (sr [1,2,6,7] [1,2,6,7,20] [mm 16 7,ff 17 4 2,ll 18 17,oA 19 Ln 18,oB 20 Bl 16 19] (cD 20 .skip (.exit 0))) (.seq (.block 1 [1,2,6,7] (sr [1,2,6,7] [1,2,6,7,8,9] [ff 24 4 2,ll 25 24,mm 26 7,oB 27 (iA 5) 25 26,oA 28 (Lt 5) 27,mm 29 1,oB 30 (pC 179) 28 29,mm 23 30,oA 31 (.ext 0) 23,oA 32 (.ext 1) 23,mm 8 31,mm 9 32] (.seq (sr [1,2,6,7,8,9] [1,2,6,7,8,9,34] [mm 33 9,oC 34 Bn 33 0] (cD 34 (sr [9] [4,5] [mm 35 9,mK 4 0,mm 5 35] .ret) .skip)) (.reg false [1,2,6,7,8] [1,2,6,7] [mm 36 6,mm 37 8,oo 38 (.bsl true 1 1 iZ [0]) [.t 37],oB 39 (.app 1) 36 38,mm 6 39])))) (.reg false [1,2,6,7] [1,2,6,7] [mm 21 7,oC 22 Ba 21 1,mm 7 22])))
def zin:LC:=zc0
theorem zbz:ELq zin zc0:=fun _ _ _=>rfl
def c179:LC:=(sr [0,1] [1,2] [oA 2 (.box 5) 0,mK 4 0,mK 5 0] (sr [1,2] [1,2,6] [oo 15 (.bsl false 1 0 iZ []) [],mm 6 15] (.seq (sr [1,2,6] [1,2,6,7] [mK 7 0] (.block 0 [1,2,6] (.loop [1,2,6,7] zin))) (.seq (sr [1,2,6] [1,2,6,42] [ff 40 0 2,ll 41 40,oC 42 Be 41 1] (cD 42 (sr [] [4,5] [mK 4 1,mK 5 0] .ret) .skip)) (.seq (sr [1,2,6] [1,2,6,45] [ff 43 0 2,ll 44 43,oC 45 Be 44 2] (cD 45 (sr [1,2] [10,11] [mm 47 1,ff 48 2 2,ll 49 48,oB 50 (pC 221) 47 49,mm 46 50,oA 51 (.ext 0) 46,oA 52 (.ext 1) 46,oo 10 (.box 3) [.c (.agg [(.str []),iZ,iZ])],sT 3 10 51,mm 11 52] (.seq (sr [10,11] [10,54] [mm 53 11,oA 54 .not 53] (cD 54 (sr [] [4,5] [mK 4 0,mK 5 7] .ret) .skip)) (sr [10] [4,5] [ff 55 1 10,ll 56 55,mm 4 56,mK 5 0] .ret))) .skip)) (sr [2,6] [2,6,12] [ff 57 1 2,ll 58 57,oC 59 Be 58 2,mm 60 59,sO 64 60 [ff 61 1 2,ll 62 61,oC 63 Be 62 14] (.t 63),mm 65 64,sO 69 65 [ff 66 1 2,ll 67 66,oC 68 Be 67 15] (.t 68),mm 12 69] (sr [2,6,12] [2,6,12,13] [mK 13 1] (.seq (sr [2,6,12,13] [2,6,12,13,70] [mm 70 12] (cD 70 (.reg false [2,6,12] [2,6,12,13] [mK 13 2]) .skip)) (.seq (sr [2,6,12,13] [2,6,12,13,78] [ff 71 1 2,ll 72 71,oC 73 Be 72 8,mm 74 73,sO 78 74 [ff 75 1 2,ll 76 75,oC 77 Be 76 9] (.t 77)] (cD 78 (.reg false [2,6,12] [2,6,12,13] [mm 79 6,oC 80 (iA 1) 79 0,ll 81 80,mm 13 81]) .skip)) (.seq (sr [2,6,12,13] [2,6,12,13,14] [mK 14 0] (.block 2 [2,12] (.loop [2,6,12,13,14] znH))) (.seq (sr [2,12] [99] [mm 94 12,mm 95 94,sO 99 95 [ff 96 1 2,ll 97 96,oC 98 (.bin .geq) 97 8] (.t 98)] (cD 99 (sr [] [4,5] [mK 4 2,mK 5 0] .ret) .skip)) (sr [] [4,5] [mK 4 1,mK 5 0] .ret))))))))))))
def zbV:FI:=⟨2,100,c179,[.tmp 4,.tmp 5]⟩
theorem zzx:zh Tryz.prog 179 zbV=true:=by kernel_rfl
def zxP:LC:=(sr [0,1,16,17,18] [0,1,16,17,18,19] [oB 19 Bl 18 17] (.seq (cD 19 .skip (.exit 0)) (.seq (.block 1 [0,1,16,17,18] (sr [0,1,16,17,18] [0,1,5,6,16,17,18] [mm 20 18,oB 21 (iA 2) 16 18,oA 22 (Lt 2) 21,oo 6 (.box 2) [.c (.agg [iZ,iZ])],mm 5 20,sT 2 6 22] (.seq (sr [0,1,5,6,16,17,18] [0,1,5,6,16,17,18,42] [ff 23 0 6,ll 24 23,oC 25 Bl 24 0,mm 26 25,sO 31 26 [ff 27 0 6,ll 28 27,mm 29 0,oB 30 (.bin .geq) 28 29] (.t 30),mm 32 31,sO 36 32 [ff 33 1 6,ll 34 33,oC 35 Bl 34 0] (.t 35),mm 37 36,sO 42 37 [ff 38 1 6,ll 39 38,mm 40 0,oB 41 (.bin .geq) 39 40] (.t 41)] (cD 42 .any .skip)) (st [0,1,5,6,16,17,18] [0,1,16,17,18,54] [mm 43 5,oC 44 Bg 43 0,mm 45 44,sA 54 45 [mm 46 1,mm 47 5,oC 48 (.bin .sub) 47 1,oB 49 (iA 2) 46 48,oA 50 (Lt 2) 49,oA 51 (Lt 2) 6,oB 52 (pC 227) 50 51,oC 53 (.bin .geq) 52 0] 53] (cD 54 .any .skip))))) (.reg false [0,1,16,17,18] [0,1,16,17,18] [oC 55 Ba 18 1,mm 18 55]))))
def zxc:LC:=zxP
def c190:LC:=(sr [0,1] [0,1] [mK 4 0] (.seq (sr [0,1] [0,1,12] [mm 7 0,oC 8 Bl 7 0,mm 9 8,sO 12 9 [mm 10 0,oC 11 Bg 10 200] (.t 11)] (cD 12 .any .skip)) (.seq (sr [0,1] [0,1,15] [mm 13 1,oA 14 Ln 13,oC 15 Bg 14 2000] (cD 15 .any .skip)) (.seq (sr [0,1] [0,1,16,17,18] [mm 16 1,oA 17 Ln 16,mK 18 0] (.block 0 [] (.loop [0,1,16,17,18] zxc))) (sr [] [4] [mK 4 0] .ret)))))
def zvl:FI:=⟨2,56,c190,[.tmp 4]⟩
theorem zzw:zh Tryz.prog 190 zvl=true:=by kernel_rfl
def zxO:LC:=(sr [0,10,11,12] [0,10,11,12,13] [oB 13 Bl 12 11] (.seq (cD 13 .skip (.exit 0)) (.seq (.block 1 [0,10,11,12] (sr [0,10,11,12] [0,5,10,11,12] [oB 14 (iA 1) 10 12,ll 15 14,mm 5 15] (sr [0,5,10,11,12] [0,10,11,12,19] [mm 16 0,mm 17 5,oB 18 .callv 16 17,oA 19 .not 18] (cD 19 .ret .skip)))) (.reg false [0,10,11,12] [0,10,11,12] [oC 20 Ba 12 1,mm 12 20]))))
def zxb:LC:=zxO
def c191:LC:=(sr [0,1,2] [0,10,11,12] [ff 6 1 1,ll 7 6,ll 8 2,oB 9 (iA 1) 7 8,ll 10 9,oA 11 Ln 10,mK 12 0] (.block 0 [] (.loop [0,10,11,12] zxb)))
def zvk:FI:=⟨3,21,c191,[]⟩
theorem zzv:zh Tryz.prog 191 zvk=true:=by kernel_rfl
def c192:LC:=(.reg false [0,2] [] [mm 6 0,mm 7 2,oo 8 (.call 161) [.t 6,kk 0,.t 7]])
def zrF:FI:=⟨3,9,c192,[]⟩
theorem zzu:zh Tryz.prog 192 zrF=true:=by kernel_rfl
def c193:LC:=(.reg false [0] [] [mm 4 0,oA 5 .nilchk 4,ff 6 8 5,ff 7 2 6,.op none (.store 1) [.t 7,.c (.bool true)]])
def zrE:FI:=⟨2,8,c193,[]⟩
theorem zzt:zh Tryz.prog 193 zrE=true:=by kernel_rfl
def c194:LC:=(st [0] [0] [mm 6 0,mm 7 0,oA 8 .nilchk 7,ff 9 0 8,ff 10 7 9,ll 11 10,mm 12 0,oA 13 .nilchk 12,ff 14 8 13,ff 15 1 14,ll 16 15,oB 17 (iA 1) 11 16,ll 18 17,oo 19 (.call 161) [.t 6,kk 0,.t 18]] (.reg false [0] [] [mm 20 0,oA 21 .nilchk 20,ff 22 8 21,ff 23 1 22,ll 24 23,oC 25 Ba 24 1,oA 26 .nilchk 20,ff 27 8 26,ff 28 1 27,sT 1 28 25]))
def zrD:FI:=⟨3,29,c194,[]⟩
theorem zzs:zh Tryz.prog 194 zrD=true:=by kernel_rfl
def c195:LC:=(.reg false [0,2] [] [mm 6 0,mm 7 0,mm 8 2,oo 9 (.call 162) [.t 7,.t 8,kk 0],oo 10 (.call 161) [.t 6,kk 0,.t 9]])
def zot:FI:=⟨3,11,c195,[]⟩
theorem zzr:zh Tryz.prog 195 zot=true:=by kernel_rfl
def c196:LC:=(sr [0,2] [0,2,9] [mm 6 0,mm 7 2,oo 8 (.call 162) [.t 6,.t 7,kk 0],oC 9 Be 8 1] (cD 9 (.reg false [0,2] [] [mm 10 0,mm 11 2,oo 12 (.call 161) [.t 10,kk 0,.t 11]]) .skip))
def zjL:FI:=⟨3,13,c196,[]⟩
theorem zzq:zh Tryz.prog 196 zjL=true:=by kernel_rfl
def c197:LC:=(sr [0,2] [0] [mm 6 0,mm 7 0,oA 8 .nilchk 7,ff 9 8 8,ff 10 0 9,ll 11 10,oA 12 (.call 44) 11,mm 13 2,oo 14 (.bsl true 1 1 iZ [0]) [.t 13],oB 15 (.app 1) 12 14,oA 16 .nilchk 6,ff 17 8 16,ff 18 0 17,sT 1 18 15] (st [0] [0,30] [mm 19 0,oA 20 .nilchk 19,ff 21 8 20,ff 22 0 21,ll 23 22,oA 24 Ln 23,mm 25 0,oA 26 .nilchk 25,ff 27 0 26,ff 28 1 27,ll 29 28,oB 30 Be 24 29] (cD 30 (.reg false [0] [] [mm 31 0,oA 32 (.call 199) 31]) .skip)))
def zos:FI:=⟨3,33,c197,[]⟩
theorem zzp:zh Tryz.prog 197 zos=true:=by kernel_rfl
def c198:LC:=(.seq (sr [0] [0,10] [mm 4 0,oA 5 .nilchk 4,ff 6 8 5,ff 7 0 6,ll 8 7,oA 9 Ln 8,oC 10 Bg 9 0] (cD 10 (.reg false [0] [0] [mm 11 0,oA 12 (.call 199) 11]) .skip)) (.reg false [0] [] [mm 13 0,oA 14 .nilchk 13,ff 15 8 14,ff 16 2 15,.op none (.store 1) [.t 16,.c (.bool true)]]))
def zor:FI:=⟨2,17,c198,[]⟩
theorem zzo:zh Tryz.prog 198 zor=true:=by kernel_rfl
def zgC:LC:=(sr [0,2,9,10,11] [0,2,9,10,11,12] [oB 12 Bl 11 10] (.seq (cD 12 .skip (.exit 0)) (.seq (.block 1 [0,2,9,10,11] (sr [0,2,9,10,11] [0,2,4,9,10,11] [oB 13 (iA 1) 9 11,ll 14 13,mm 4 14] (sr [0,2,4,9,10,11] [0,2,9,10,11] [mm 15 2,mm 16 4,oB 17 Ba 15 16,mm 2 17] (sr [0,2,9,10,11] [0,2,9,10,11,27] [mm 18 2,oA 19 (pC 116) 18,oA 20 .not 19,mm 21 20,sA 27 21 [mm 22 0,oA 23 .nilchk 22,ff 24 12 23,ll 25 24,oC 26 Be 25 0] 26] (cD 27 (.reg false [0,2,9,10,11] [0,2,9,10,11] [mm 28 0,oA 29 .nilchk 28,ff 30 12 29,.op none (.store 1) [.t 30,kk 14]]) .skip))))) (.reg false [0,2,9,10,11] [0,2,9,10,11] [oC 31 Ba 11 1,mm 11 31]))))
def znG:LC:=zgC
theorem ze2:ELq znG zgC:=fun _ _ _=>rfl
def c199:LC:=(sr [0] [0,2] [mK 2 0] (.seq (sr [0,2] [0,2,9,10,11] [mm 5 0,oA 6 .nilchk 5,ff 7 8 6,ff 8 0 7,ll 9 8,oA 10 Ln 9,mK 11 0] (.block 0 [0,2] (.loop [0,2,9,10,11] znG))) (sr [0,2] [0] [mm 32 0,mm 33 2,oo 34 (.call 161) [.t 32,kk 0,.t 33]] (.reg false [0] [] [mm 35 0,oA 36 .nilchk 35,ff 37 8 36,ff 38 0 37,.op none (.store 1) [.t 38,.c nL]]))))
def zoq:FI:=⟨1,39,c199,[]⟩
theorem zzn:zh Tryz.prog 199 zoq=true:=by kernel_rfl
def zlq:LC:=(sr [0,2,10,11] [0,2,10,11,12] [oB 12 Bl 11 10] (.seq (cD 12 .skip (.exit 0)) (.seq (.block 1 [0,2,10,11] (.reg false [0,2,10,11] [0,2,10,11] [mm 13 0,mm 14 2,oo 15 (.call 161) [.t 13,kk 0,.t 14]])) (.reg false [0,2,10,11] [0,2,10,11] [oC 16 Ba 11 1,mm 11 16]))))
def znF:LC:=zlq
theorem zld:ELq znF zlq:=fun _ _ _=>rfl
def c200:LC:=(sr [0,2] [0,2,10,11] [mm 6 0,oA 7 .nilchk 6,ff 8 0 7,ff 9 1 8,ll 10 9,mK 11 0] (.block 0 [] (.loop [0,2,10,11] znF)))
def zrC:FI:=⟨3,17,c200,[]⟩
theorem zzm:zh Tryz.prog 200 zrC=true:=by kernel_rfl
def c201:LC:=(st [0,2] [0,2,16] [mm 6 0,oA 7 .nilchk 6,ff 8 8 7,ff 9 1 8,ll 10 9,mm 11 0,oA 12 .nilchk 11,ff 13 0 12,ff 14 1 13,ll 15 14,oB 16 Bl 10 15] (cD 16 (sr [0,2] [0,2] [mm 17 0,oA 18 .nilchk 17,ff 19 8 18,ff 20 1 19,ll 21 20,oC 22 Ba 21 1,oA 23 .nilchk 17,ff 24 8 23,ff 25 1 24,sT 1 25 22] (.reg false [0,2] [] [mm 26 0,mm 27 2,oo 28 (.call 161) [.t 26,kk 0,.t 27]])) .skip))
def zop:FI:=⟨3,29,c201,[]⟩
theorem zzl:zh Tryz.prog 201 zop=true:=by kernel_rfl
def c202:LC:=(.reg false [0,2] [] [mm 6 0,mm 7 0,mm 8 2,oo 9 (.call 162) [.t 7,.t 8,kk 0],oo 10 (.bin .sub) [kk 1,.t 9],mm 11 2,oo 12 (.call 161) [.t 6,.t 10,.t 11]])
def zl3:FI:=⟨3,13,c202,[]⟩
theorem zzk:zh Tryz.prog 202 zl3=true:=by kernel_rfl
def c203:LC:=(sr [0,1] [0] [mm 4 0,mm 5 0,oA 6 .nilchk 5,ff 7 8 6,ff 8 0 7,ll 9 8,oA 10 (.call 44) 9,mm 11 1,oo 12 (.bsl true 1 1 iZ [0]) [.t 11],oB 13 (.app 1) 10 12,oA 14 .nilchk 4,ff 15 8 14,ff 16 0 15,sT 1 16 13] (sr [0] [0] [mm 17 0,oA 18 .nilchk 17,ff 19 8 18,ff 20 0 19,ll 21 20,oA 22 (.call 228) 21] (.reg false [0] [] [mm 23 0,mm 24 0,oA 25 .nilchk 24,ff 26 8 25,ff 27 0 26,ll 28 27,oA 29 Ln 28,oC 30 Be 29 2,oA 31 .nilchk 23,ff 32 8 31,ff 33 2 32,sT 1 33 30])))
def zrB:FI:=⟨2,34,c203,[]⟩
theorem zzj:zh Tryz.prog 203 zrB=true:=by kernel_rfl
def c204:LC:=(sr [0,1,2,3] [0,1] [ll 7 3,mm 8 0,mm 9 1,mm 10 2,oo 11 .callv [.t 7,.t 8,.t 9,.t 10]] (.reg false [0,1] [] [mm 12 0,mm 13 1,oo 14 (.bin .sub) [kk 1,.t 13],oA 15 .nilchk 12,ff 16 8 15,ff 17 1 16,sT 1 17 14]))
def zrA:FI:=⟨4,18,c204,[]⟩
theorem zzi:zh Tryz.prog 204 zrA=true:=by kernel_rfl
def c205:LC:=(.seq (sr [0,1,2] [0,2,8] [mm 7 1,oC 8 Be 7 0] (cD 8 (.seq (sr [0,2] [0,2,15] [mm 9 0,oA 10 .nilchk 9,ff 11 8 10,ff 12 1 11,ll 13 12,oC 14 (.bin .and) 13 2,oC 15 Be 14 0] (cD 15 (.reg false [0,2] [] [mm 16 0,mm 17 2,oo 18 (.bsl true 1 1 iZ [0]) [.t 17],oA 19 .nilchk 16,ff 20 8 19,ff 21 0 20,sT 1 21 18]) .skip)) .ret) .skip)) (sr [0,2] [0,2,28] [mm 22 0,oA 23 .nilchk 22,ff 24 8 23,ff 25 0 24,ll 26 25,oA 27 Ln 26,oC 28 Be 27 1] (cD 28 (sr [0,2] [0,2,6] [mm 29 0,oA 30 .nilchk 29,ff 31 8 30,ff 32 0 31,ll 33 32,oC 34 (iA 1) 33 0,ll 35 34,mm 6 35] (sr [0,2,6] [0,2,6] [mm 36 0,oA 37 .nilchk 36,ff 38 8 37,ff 39 0 38,.op none (.store 1) [.t 39,.c nL]] (.reg false [0,2,6] [] [mm 40 0,mm 41 0,mm 42 6,mm 43 2,oo 44 (.call 162) [.t 41,.t 42,.t 43],oo 45 (.call 161) [.t 40,kk 0,.t 44]]))) .skip)))
def ziG:FI:=⟨3,46,c205,[]⟩
theorem zzh:zh Tryz.prog 205 ziG=true:=by kernel_rfl
def c206:LC:=(st [0,1] [0,1] [mm 4 0,oA 5 .nilchk 4,ff 6 8 5,ff 7 1 6,ll 8 7,mm 9 1,oo 10 (.bin .shl) [kk 1,.t 9],oB 11 (.bin .or) 8 10,oA 12 .nilchk 4,ff 13 8 12,ff 14 1 13,sT 1 14 11] (.seq (sr [0,1] [0,16] [mm 15 1,oC 16 Be 15 1] (cD 16 (.reg false [0] [0] [mm 17 0,oA 18 .nilchk 17,ff 19 8 18,ff 20 0 19,.op none (.store 1) [.t 20,.c nL]]) .skip)) (.reg false [0] [] [mm 21 0,mm 22 0,oA 23 .nilchk 22,ff 24 8 23,ff 25 1 24,ll 26 25,oC 27 Be 26 3,oA 28 .nilchk 21,ff 29 8 28,ff 30 2 29,sT 1 30 27])))
def zoo:FI:=⟨2,31,c206,[]⟩
theorem zzg:zh Tryz.prog 206 zoo=true:=by kernel_rfl
def c207:LC:= .skip
def zrz:FI:=⟨3,6,c207,[]⟩
theorem zzf:zh Tryz.prog 207 zrz=true:=by kernel_rfl
def c208:LC:=(sr [0,1] [1,2] [oA 2 (.box 5) 0,mK 4 0,mK 5 0] (.seq (sr [1,2] [1,2,7] [oA 9 (Lt 5) 2,mm 10 1,oB 11 (pC 167) 9 10,mm 8 11,oA 12 (.ext 0) 8,oA 13 (.ext 1) 8,mm 6 12,mm 7 13] (sr [1,2,7] [1,2,7,15] [mm 14 7,oC 15 Bn 14 0] (cD 15 (sr [7] [4,5] [mm 16 7,mK 4 0,mm 5 16] .ret) .skip))) (sr [1,2] [4,5] [oA 17 (Lt 5) 2,mm 18 1,oB 19 (pC 229) 17 18,oA 20 (.ext 0) 19,oA 21 (.ext 1) 19,mm 4 20,mm 5 21] .ret)))
def zon:FI:=⟨2,22,c208,[.tmp 4,.tmp 5]⟩
theorem zze:zh Tryz.prog 208 zon=true:=by kernel_rfl
def zgB:LC:=(sr [1,2,7,26,27,28] [1,2,7,26,27,28,29] [oB 29 Bl 28 27] (.seq (cD 29 .skip (.exit 0)) (.seq (.block 1 [1,2,7,26,27,28] (sr [1,2,7,26,27,28] [1,2,7,9,26,27,28] [oB 30 (iA 5) 26 28,oA 31 (Lt 5) 30,oo 9 (.box 5) [.c (.agg [iZ,iZ,(.str []),iZ,nL])],sT 5 9 31] (.seq (sr [1,2,7,9,26,27,28] [1,2,7,9,26,27,28,35] [mm 32 2,oA 33 .nilchk 32,ll 34 33,oC 35 Bg 34 100] (cD 35 (.exit 0) .skip)) (.reg false [1,2,7,9,26,27,28] [1,2,7,26,27,28] [mm 36 7,oA 37 (Lt 5) 9,mm 38 1,oC 39 Ba 38 1,mm 40 2,oo 41 (.call 209) [.t 37,.t 39,.t 40],oB 42 .mx 36 41,mm 7 42])))) (.reg false [1,2,7,26,27,28] [1,2,7,26,27,28] [oC 43 Ba 28 1,mm 28 43]))))
def zkV:LC:=zgB
theorem ze1:ELq zkV zgB:=fun _ _ _=>rfl
def c209:LC:=(sr [0,1,2] [1,2,3] [oA 3 (.box 5) 0,mK 6 0] (sr [1,2,3] [1,2,3] [mm 10 2,oA 11 .nilchk 10,ll 12 11,oC 13 Ba 12 1,oA 14 .nilchk 10,sT 1 14 13] (.seq (sr [1,2,3] [1,2,3,22] [mm 15 2,oA 16 .nilchk 15,ll 17 16,oC 18 Bg 17 100,mm 19 18,sO 22 19 [mm 20 1,oC 21 Bg 20 100] (.t 21)] (cD 22 (sr [1] [6] [mm 23 1,mm 6 23] .ret) .skip)) (sr [1,2,3] [1,2,3,7] [mm 24 1,mm 7 24] (.seq (sr [1,2,3,7] [1,2,7,26,27,28] [ff 25 4 3,ll 26 25,oA 27 Ln 26,mK 28 0] (.block 0 [7] (.loop [1,2,7,26,27,28] zkV))) (sr [7] [6] [mm 44 7,mm 6 44] .ret))))))
def zom:FI:=⟨3,45,c209,[.tmp 6]⟩
theorem zzd:zh Tryz.prog 209 zom=true:=by kernel_rfl
def c210:LC:=(sr [0] [1] [oA 1 (.box 5) 0,oo 2 .mv [.c .nilf]] (sr [1] [2] [oA 3 (.clo 230 0) 1,mm 2 3] .ret))
def zry:FI:=⟨1,4,c210,[.tmp 2]⟩
theorem zzc:zh Tryz.prog 210 zry=true:=by kernel_rfl
def c211:LC:=(sr [0] [1] [oA 1 (.box 5) 0,mK 2 0] (.seq (sr [1] [1,14] [ff 7 0 1,ll 8 7,oC 9 Bl 8 1,mm 10 9,sO 14 10 [ff 11 0 1,ll 12 11,oC 13 Bg 12 4] (.t 13)] (cD 14 (sr [] [2] [mK 2 8] .ret) .skip)) (st [1] [1,3,4] [oA 15 (Lt 5) 1,oo 16 (.bsl true 1 5 iZ [0,1,2,3,4]) [kk 0,kk 0,kk 0,kk 1,kk 2],ff 17 0 1,ll 18 17,oB 19 (iA 1) 16 18,ll 20 19,oo 3 (.box 5) [.c (.agg [iZ,iZ,(.str []),iZ,nL])],.op none (.storeA 5) [.t 3,.t 15,.t 17,.t 16,.t 19],mm 4 20] (.seq (sr [1,3,4] [1,3,4,22] [ff 21 0 1,ll 22 21] (.block 0 [1,3,4] (sr [1,3,4,22] [1,3,4,22,24] [oC 25 Be 22 1,mm 24 25] (cD 24 (.reg false [1,3,4] [1,3,4] [ff 26 3 3,.op none (.store 1) [.t 26,kk 0]]) (sr [1,3,4,22] [1,3,4,27] [oC 28 Be 22 2,mm 27 28] (cD 27 (.reg false [1,3,4] [1,3,4] [ff 29 2 3,.op none (.store 1) [.t 29,.c (.str [])]]) (.reg false [1,3,4] [1,3,4] [ff 23 1 3,.op none (.store 1) [.t 23,kk 0]]))))))) (.seq (sr [1,3,4] [1,49] [ff 30 1 3,ll 31 30,oC 32 Bn 31 0,mm 33 32,sO 37 33 [ff 34 2 3,ll 35 34,oo 36 Bn [.t 35,.c (.str [])]] (.t 36),mm 38 37,sO 42 38 [ff 39 3 3,ll 40 39,oC 41 Bn 40 0] (.t 41),mm 43 42,sO 49 43 [ff 44 4 1,ll 45 44,oA 46 Ln 45,mm 47 4,oB 48 Bn 46 47] (.t 48)] (cD 49 (sr [] [2] [mK 2 1] .ret) .skip)) (st [1] [1,6] [oo 51 (pC 232) [],ff 52 1 1,ll 53 52,oo 54 (.mget 0 true (.agg [(.str []),iZ,iZ,iZ,.nilf])) [.t 51,.t 53],mm 50 54,oA 55 (.ext 0) 50,oA 56 (.ext 1) 50,oo 5 (.box 5) [.c (.agg [(.str []),iZ,iZ,iZ,.nilf])],sT 5 5 55,mm 6 56] (.seq (.block 1 [] (sr [1,6] [1,6,57] [ff 58 0 1,ll 59 58,oC 60 Be 59 1,mm 61 60,sA 70 61 [ff 62 3 1,ll 63 62,oC 64 Bl 63 0,mm 65 64,sO 69 65 [ff 66 3 1,ll 67 66,oC 68 Bg 67 1099511627776] (.t 68)] 69,mm 57 70] (cD 57 (sr [] [2] [mK 2 2] .ret) (sr [1,6] [1,6,71] [ff 72 0 1,ll 73 72,oC 74 Be 73 2,mm 75 74,sA 80 75 [ff 76 2 1,ll 77 76,oA 78 (pC 233) 77,oA 79 .not 78] 79,mm 71 80] (cD 71 (sr [] [2] [mK 2 5] .ret) (sr [1,6] [81] [ff 82 0 1,ll 83 82,oC 84 Be 83 3,mm 85 84,sA 89 85 [ff 86 1 1,ll 87 86,oC 88 Bn 87 1] 88,mm 90 89,sA 94 90 [ff 91 1 1,ll 92 91,oC 93 Bn 92 2] 93,mm 95 94,sO 103 95 [ff 96 0 1,ll 97 96,oC 98 Be 97 4,mm 99 98,sA 102 99 [mm 100 6,oA 101 .not 100] 101] (.t 102),mm 81 103] (cD 81 (sr [] [2] [mK 2 8] .ret) .skip))))))) (sr [] [2] [mK 2 0] .ret))))))))
def zf1:FI:=⟨1,104,c211,[.tmp 2]⟩
theorem zzb:zh Tryz.prog 211 zf1=true:=by kernel_rfl
def zi5:LC:=(sr [0,1,7,8] [0,1,7,8,9] [oB 9 Bl 8 7] (.seq (cD 9 .skip (.exit 0)) (.seq (.block 1 [0,1,7,8] (sr [0,1,7,8] [0,1,5,7,8] [mm 10 8,mm 5 10] (sr [0,1,5,7,8] [0,1,5,7,8,16] [mm 11 1,mm 12 0,mm 13 5,oB 14 (iA 1) 12 13,ll 15 14,oB 16 Be 11 15] (cD 16 (sr [5] [4] [mm 17 5,mm 4 17] .ret) .skip)))) (.reg false [0,1,7,8] [0,1,7,8] [oC 18 Ba 8 1,mm 8 18]))))
def znE:LC:=zi5
theorem zhl:ELq znE zi5:=fun _ _ _=>rfl
def c214:LC:=(sr [0,1] [0,1] [mK 4 0] (.seq (sr [0,1] [0,1,7,8] [mm 6 0,oA 7 Ln 6,mK 8 0] (.block 0 [] (.loop [0,1,7,8] znE))) (sr [] [4] [oo 4 .mv [.c (.int .i64 (-1))]] .ret)))
def zol:FI:=⟨2,19,c214,[.tmp 4]⟩
theorem zza:zh Tryz.prog 214 zol=true:=by kernel_rfl
def zfS:LC:=(sr [0,7,8,9] [0,7,8,9,10] [oB 10 Bl 9 8] (.seq (cD 10 .skip (.exit 0)) (.seq (.block 1 [0,7,8,9] (sr [0,7,8,9] [0,3,4,7,8,9] [mm 11 9,oB 12 (iA 3) 7 9,oA 13 (Lt 3) 12,oo 4 (.box 3) [.c (.agg [(.str []),iZ,iZ])],mm 3 11,sT 3 4 13] (sr [0,3,4,7,8,9] [0,3,4,5,6,7,8,9] [oo 5 .mv [.c (.int .i64 (-1099511627776))],mK 6 1099511627776] (.seq (sr [0,3,4,5,6,7,8,9] [0,3,4,5,6,7,8,9,16] [ff 14 1 4,ll 15 14,oC 16 Be 15 2] (cD 16 (.reg false [0,3,4,7,8,9] [0,3,4,5,6,7,8,9] [mK 5 0,mK 6 1]) .skip)) (st [0,3,4,5,6,7,8,9] [0,7,8,9,57] [ff 17 0 4,ll 18 17,oA 19 (pC 233) 18,oA 20 .not 19,mm 21 20,sO 35 21 [mm 22 3,oC 23 Bg 22 0,mm 24 23,sA 34 24 [mm 25 0,mm 26 3,oC 27 (.bin .sub) 26 1,oB 28 (iA 3) 25 27,ff 29 0 28,ll 30 29,ff 31 0 4,ll 32 31,oB 33 (.bin .geq) 30 32] 33] (.t 34),mm 36 35,sO 45 36 [ff 37 1 4,ll 38 37,oC 39 Bn 38 1,mm 40 39,sA 44 40 [ff 41 1 4,ll 42 41,oC 43 Bn 42 2] 43] (.t 44),mm 46 45,sO 51 46 [ff 47 2 4,ll 48 47,mm 49 5,oB 50 Bl 48 49] (.t 50),mm 52 51,sO 57 52 [ff 53 2 4,ll 54 53,mm 55 6,oB 56 Bg 54 55] (.t 56)] (cD 57 (sr [] [2] [mB 2 false] .ret) .skip)))))) (.reg false [0,7,8,9] [0,7,8,9] [oC 58 Ba 9 1,mm 9 58]))))
def zkU:LC:=zfS
theorem zdR:ELq zkU zfS:=fun _ _ _=>rfl
def c215:LC:=(sr [0] [0] [mB 2 false] (.seq (sr [0] [0,7,8,9] [mm 7 0,oA 8 Ln 7,mK 9 0] (.block 0 [0] (.loop [0,7,8,9] zkU))) (sr [0] [2] [mm 59 0,oA 60 Ln 59,oC 61 (.bin .leq) 60 64,mm 2 61] .ret)))
def zok:FI:=⟨1,62,c215,[.tmp 2]⟩
theorem zy9:zh Tryz.prog 215 zok=true:=by kernel_rfl
def zcZ:LC:=(sr [1,2,6,16,17,18] [1,2,6,16,17,18,19] [oB 19 Bl 18 17] (.seq (cD 19 .skip (.exit 0)) (.seq (.block 1 [1,2,6,16,17,18] (sr [1,2,6,16,17,18] [1,2,6,8,16,17,18] [oB 20 (iA 5) 16 18,oA 21 (Lt 5) 20,oo 8 (.box 5) [.c (.agg [iZ,iZ,(.str []),iZ,nL])],sT 5 8 21] (sr [1,2,6,8,16,17,18] [1,2,6,9,10,16,17,18] [oA 23 (Lt 5) 8,mm 24 1,oB 25 (pC 216) 23 24,mm 22 25,oA 26 (.ext 0) 22,oA 27 (.ext 1) 22,mm 9 26,mm 10 27] (.seq (sr [1,2,6,9,10,16,17,18] [1,2,6,9,10,16,17,18,29] [mm 28 10,oC 29 Bn 28 0] (cD 29 (sr [10] [4,5] [mm 30 10,mK 4 0,mm 5 30] .ret) .skip)) (.reg false [1,2,6,9,16,17,18] [1,2,6,16,17,18] [mm 31 6,mm 32 9,oo 33 (.bsl true 1 1 iZ [0]) [.t 32],oB 34 (.app 1) 31 33,mm 6 34]))))) (.reg false [1,2,6,16,17,18] [1,2,6,16,17,18] [oC 35 Ba 18 1,mm 18 35]))))
def zim:LC:=zcZ
theorem zby:ELq zim zcZ:=fun _ _ _=>rfl
def c216:LC:=(sr [0,1] [1,2] [oA 2 (.box 5) 0,mK 4 0,mK 5 0] (sr [1,2] [1,2,6] [oo 6 .mv [.c nL]] (.seq (sr [1,2,6] [1,2,6,16,17,18] [ff 15 4 2,ll 16 15,oA 17 Ln 16,mK 18 0] (.block 0 [1,2,6] (.loop [1,2,6,16,17,18] zim))) (.seq (sr [1,2,6] [1,2,6,37] [ff 36 0 2,ll 37 36] (.block 2 [2,6] (sr [1,2,6,37] [1,2,6,37,38] [oC 39 Be 37 1,mm 38 39] (cD 38 (sr [] [4,5] [mK 4 1,mK 5 0] .ret) (sr [1,2,6,37] [1,2,6,37,40] [oC 41 Be 37 2,mm 40 41] (cD 40 (sr [1,2] [11,12] [mm 43 1,ff 44 2 2,ll 45 44,oB 46 (pC 235) 43 45,mm 42 46,oA 47 (.ext 0) 42,oA 48 (.ext 1) 42,oo 11 (.box 3) [.c (.agg [(.str []),iZ,iZ])],sT 3 11 47,mm 12 48] (.seq (sr [11,12] [11,50] [mm 49 12,oA 50 .not 49] (cD 50 (sr [] [4,5] [mK 4 0,mK 5 7] .ret) .skip)) (sr [11] [4,5] [ff 51 1 11,ll 52 51,mm 4 52,mK 5 0] .ret))) (sr [2,6,37] [2,6,53] [oC 54 Be 37 3,mm 53 54] (cD 53 (sr [2,6] [2,6,13] [mK 13 1] (.seq (sr [2,6,13] [6,13,57] [ff 55 1 2,ll 56 55,oC 57 Be 56 2] (cD 57 (.reg false [6] [6,13] [mK 13 2]) .skip)) (.seq (sr [6,13] [13,62] [mm 58 6,oC 59 (iA 1) 58 0,ll 60 59,mm 61 13,oB 62 Bn 60 61] (cD 62 (sr [] [4,5] [mK 4 0,mK 5 15] .ret) .skip)) (sr [13] [4,5] [mm 63 13,mm 4 63,mK 5 0] .ret)))) .skip)))))))) (st [2,6] [6,14] [oo 64 (pC 232) [],ff 65 1 2,ll 66 65,oo 67 (.mget 0 false (.agg [(.str []),iZ,iZ,iZ,.nilf])) [.t 64,.t 66],oo 14 (.box 5) [.c (.agg [(.str []),iZ,iZ,iZ,.nilf])],sT 5 14 67] (.seq (st [6,14] [14,87] [mm 68 6,oC 69 (iA 1) 68 0,ll 70 69,mm 71 6,oC 72 (iA 1) 71 1,ll 73 72,oB 74 Bn 70 73,mm 75 74,sO 87 75 [ff 76 2 14,ll 77 76,oC 78 Bn 77 0,mm 79 78,sA 86 79 [mm 80 6,oC 81 (iA 1) 80 0,ll 82 81,ff 83 2 14,ll 84 83,oB 85 Bn 82 84] 85] (.t 86)] (cD 87 (sr [] [4,5] [mK 4 0,mK 5 15] .ret) .skip)) (sr [14] [4,5] [ff 88 3 14,ll 89 88,mm 4 89,mK 5 0] .ret)))))))
def zdt:FI:=⟨2,90,c216,[.tmp 4,.tmp 5]⟩
theorem zy8:zh Tryz.prog 216 zdt=true:=by kernel_rfl
def zcY:LC:=(.seq (sr [1,2,6,7] [1,2,6,7,19] [mm 15 7,ff 16 4 2,ll 17 16,oA 18 Ln 17,oB 19 Bl 15 18] (cD 19 .skip (.exit 0))) (.seq (.block 1 [1,2,6,7] (sr [1,2,6,7] [1,2,6,7,8,9] [ff 23 4 2,ll 24 23,mm 25 7,oB 26 (iA 5) 24 25,oA 27 (Lt 5) 26,mm 28 1,oB 29 (pC 217) 27 28,mm 22 29,oA 30 (.ext 0) 22,oA 31 (.ext 1) 22,mm 8 30,mm 9 31] (.seq (sr [1,2,6,7,8,9] [1,2,6,7,8,9,33] [mm 32 9,oC 33 Bn 32 0] (cD 33 (sr [9] [4,5] [mm 34 9,mK 4 0,mm 5 34] .ret) .skip)) (.reg false [1,2,6,7,8] [1,2,6,7] [mm 35 6,mm 36 8,oo 37 (.bsl true 1 1 iZ [0]) [.t 36],oB 38 (.app 1) 35 37,mm 6 38])))) (.reg false [1,2,6,7] [1,2,6,7] [mm 20 7,oC 21 Ba 20 1,mm 7 21])))
def zil:LC:=zcY
theorem zbx:ELq zil zcY:=fun _ _ _=>rfl
def c217:LC:=(sr [0,1] [1,2] [oA 2 (.box 5) 0,mK 4 0,mK 5 0] (sr [1,2] [1,2,6] [oo 14 (.bsl false 1 0 iZ []) [],mm 6 14] (.seq (sr [1,2,6] [1,2,6,7] [mK 7 0] (.block 0 [1,2,6] (.loop [1,2,6,7] zil))) (.seq (sr [1,2,6] [1,2,6,40] [ff 39 0 2,ll 40 39] (.block 2 [2,6] (sr [1,2,6,40] [1,2,6,40,41] [oC 42 Be 40 1,mm 41 42] (cD 41 (sr [2] [4,5] [ff 43 3 2,ll 44 43,mm 4 44,mK 5 0] .ret) (sr [1,2,6,40] [1,2,6,40,45] [oC 46 Be 40 2,mm 45 46] (cD 45 (sr [1,2] [10] [mm 48 1,ff 49 2 2,ll 50 49,oB 51 (pC 221) 48 50,mm 47 51,oA 52 (.ext 0) 47,oA 53 (.ext 1) 47,oo 10 (.box 3) [.c (.agg [(.str []),iZ,iZ])],sT 3 10 52,mm 11 53] (sr [10] [4,5] [ff 54 2 10,ll 55 54,mm 4 55,mK 5 0] .ret)) (sr [2,6,40] [2,6,56] [oC 57 Be 40 3,mm 56 57] (cD 56 (.seq (sr [2,6] [6,60] [ff 58 1 2,ll 59 58,oC 60 Be 59 1] (cD 60 (sr [6] [4,5] [mm 61 6,oC 62 (iA 1) 61 0,ll 63 62,oA 64 .neg 63,mm 4 64,mK 5 0] .ret) .skip)) (sr [6] [4,5] [mm 65 6,oC 66 (iA 1) 65 0,ll 67 66,oo 68 (.bin .sub) [kk 1,.t 67],mm 4 68,mK 5 0] .ret)) .skip)))))))) (st [2,6] [12,13] [ff 70 1 2,ll 71 70,mm 72 6,oC 73 (iA 1) 72 0,ll 74 73,mm 75 6,oC 76 (iA 1) 75 1,ll 77 76,oo 78 (pC 236) [.t 71,.t 74,.t 77],mm 69 78,oA 79 (.ext 0) 69,oA 80 (.ext 1) 69,mm 12 79,mm 13 80] (sr [12,13] [4,5] [mm 81 12,mm 82 13,mm 4 81,mm 5 82] .ret))))))
def zfH:FI:=⟨2,83,c217,[.tmp 4,.tmp 5]⟩
theorem zy7:zh Tryz.prog 217 zfH=true:=by kernel_rfl
def c218:LC:=(sr [0] [1] [oA 1 (.box 5) 0,mK 2 0] (.seq (sr [1] [1,13] [ff 6 0 1,ll 7 6,oC 8 Bl 7 1,mm 9 8,sO 13 9 [ff 10 0 1,ll 11 10,oC 12 Bg 11 4] (.t 12)] (cD 13 (sr [] [2] [mK 2 8] .ret) .skip)) (st [1] [1,3,4] [ff 14 0 1,ll 15 14,oC 16 Be 15 1,ff 17 0 1,ll 18 17,oC 19 Be 18 2,mm 3 16,mm 4 19] (sr [1,3,4] [1,3,4,5] [mK 5 0] (.seq (sr [1,3,4,5] [1,3,4,5,22] [ff 20 0 1,ll 21 20,oC 22 Be 21 3] (cD 22 (.reg false [1,3,4] [1,3,4,5] [mK 5 1]) .skip)) (.seq (sr [1,3,4,5] [1,3,4,5,25] [ff 23 0 1,ll 24 23,oC 25 Be 24 4] (cD 25 (.reg false [1,3,4] [1,3,4,5] [mK 5 2]) .skip)) (.seq (sr [1,3,4,5] [1,4,59] [mm 26 3,oA 27 .not 26,mm 28 27,sA 32 28 [ff 29 3 1,ll 30 29,oC 31 Bn 30 0] 31,mm 33 32,sO 41 33 [mm 34 4,oA 35 .not 34,mm 36 35,sA 40 36 [ff 37 2 1,ll 38 37,oo 39 Bn [.t 38,.c (.str [])]] 39] (.t 40),mm 42 41,sO 52 42 [mm 43 3,mm 44 43,sO 46 44 [mm 45 4] (.t 45),mm 47 46,sA 51 47 [ff 48 1 1,ll 49 48,oC 50 Bn 49 0] 50] (.t 51),mm 53 52,sO 59 53 [ff 54 4 1,ll 55 54,oA 56 Ln 55,mm 57 5,oB 58 Bn 56 57] (.t 58)] (cD 59 (sr [] [2] [mK 2 1] .ret) .skip)) (.seq (sr [1,4] [1,4,67] [ff 60 3 1,ll 61 60,oC 62 Bl 61 0,mm 63 62,sO 67 63 [ff 64 3 1,ll 65 64,oC 66 Bg 65 1099511627776] (.t 66)] (cD 67 (sr [] [2] [mK 2 2] .ret) .skip)) (.seq (sr [1,4] [1,74] [mm 68 4,mm 69 68,sA 74 69 [ff 70 2 1,ll 71 70,oA 72 (pC 220) 71,oA 73 .not 72] 73] (cD 74 (sr [] [2] [mK 2 5] .ret) .skip)) (.seq (sr [1] [102] [ff 75 0 1,ll 76 75,oC 77 Be 76 3,mm 78 77,sA 82 78 [ff 79 1 1,ll 80 79,oC 81 Bn 80 1] 81,mm 83 82,sA 87 83 [ff 84 1 1,ll 85 84,oC 86 Bn 85 2] 86,mm 88 87,sO 102 88 [ff 89 0 1,ll 90 89,oC 91 Be 90 4,mm 92 91,sA 101 92 [ff 93 1 1,ll 94 93,oC 95 Bl 94 3,mm 96 95,sO 100 96 [ff 97 1 1,ll 98 97,oC 99 Bg 98 15] (.t 99)] 100] (.t 101)] (cD 102 (sr [] [2] [mK 2 8] .ret) .skip)) (sr [] [2] [mK 2 0] .ret)))))))))))
def ziF:FI:=⟨1,103,c218,[.tmp 2]⟩
theorem zy6:zh Tryz.prog 218 ziF=true:=by kernel_rfl
def zfR:LC:=(.seq (sr [0,1,5,6,7] [0,1,5,6,7,12] [mm 9 7,mm 10 0,oA 11 Ln 10,oB 12 Bl 9 11] (cD 12 .skip (.exit 0))) (.seq (.block 1 [0,1,5,6,7] (.seq (sr [0,1,5,6,7] [0,1,5,6,7,20] [mm 15 0,mm 16 7,oB 17 (iA 1) 15 16,ll 18 17,mm 19 1,oB 20 Be 18 19] (cD 20 (sr [0] [4] [mm 21 0,mm 4 21] .ret) .skip)) (.seq (sr [0,1,5,6,7] [0,1,5,6,7,31] [mm 22 6,oA 23 .not 22,mm 24 23,sA 31 24 [mm 25 1,mm 26 0,mm 27 7,oB 28 (iA 1) 26 27,ll 29 28,oB 30 Bl 25 29] 30] (cD 31 (sr [0,1,5,7] [0,1,5,7] [mm 32 5,mm 33 1,oo 34 (.bsl true 1 1 (.str []) [0]) [.t 33],oB 35 (.app 1) 32 34,mm 5 35] (.reg false [0,1,5,7] [0,1,5,6,7] [mB 6 true])) .skip)) (.reg false [0,1,5,6,7] [0,1,5,6,7] [mm 36 5,mm 37 0,mm 38 7,oB 39 (iA 1) 37 38,ll 40 39,oo 41 (.bsl true 1 1 (.str []) [0]) [.t 40],oB 42 (.app 1) 36 41,mm 5 42])))) (.reg false [0,1,5,6,7] [0,1,5,6,7] [mm 13 7,oC 14 Ba 13 1,mm 7 14])))
def znD:LC:=zfR
theorem zdQ:ELq znD zfR:=fun _ _ _=>rfl
def c219:LC:=(sr [0,1] [0,1] [oo 4 .mv [.c nL]] (sr [0,1] [0,1,5] [oo 8 (.bsl false 1 0 (.str []) []) [],mm 5 8] (sr [0,1,5] [0,1,5,6] [mB 6 false] (.seq (sr [0,1,5,6] [0,1,5,6,7] [mK 7 0] (.block 0 [1,5,6] (.loop [0,1,5,6,7] znD))) (.seq (sr [1,5,6] [1,5,44] [mm 43 6,oA 44 .not 43] (cD 44 (.reg false [1,5] [5] [mm 45 5,mm 46 1,oo 47 (.bsl true 1 1 (.str []) [0]) [.t 46],oB 48 (.app 1) 45 47,mm 5 48]) .skip)) (sr [5] [4] [mm 49 5,mm 4 49] .ret))))))
def zl2:FI:=⟨2,50,c219,[.tmp 4]⟩
theorem zy5:zh Tryz.prog 219 zl2=true:=by kernel_rfl
def zfQ:LC:=(.seq (sr [0,3] [0,3,16] [mm 13 3,mm 14 0,oA 15 (.len true) 14,oB 16 Bl 13 15] (cD 16 .skip (.exit 0))) (.seq (.block 1 [0,3] (sr [0,3] [0,3,4] [mm 19 0,mm 20 3,oB 21 .idxs 19 20,oo 22 (.bin .geq) [.t 21,.c (.int .u8 97)],mm 23 22,sA 28 23 [mm 24 0,mm 25 3,oB 26 .idxs 24 25,oo 27 (.bin .leq) [.t 26,.c (.int .u8 122)]] 27,mm 4 28] (sr [0,3,4] [0,3,4,5] [mm 29 0,mm 30 3,oB 31 .idxs 29 30,oo 32 (.bin .geq) [.t 31,.c (.int .u8 48)],mm 33 32,sA 38 33 [mm 34 0,mm 35 3,oB 36 .idxs 34 35,oo 37 (.bin .leq) [.t 36,.c (.int .u8 57)]] 37,mm 39 38,sO 44 39 [mm 40 0,mm 41 3,oB 42 .idxs 40 41,oo 43 Be [.t 42,.c (.int .u8 95)]] (.t 43),mm 5 44] (sr [0,3,4,5] [0,3,54] [mm 45 4,oA 46 .not 45,mm 47 46,sA 54 47 [mm 48 3,oC 49 Be 48 0,mm 50 49,sO 53 50 [mm 51 5,oA 52 .not 51] (.t 52)] 53] (cD 54 (sr [] [2] [mB 2 false] .ret) .skip))))) (.reg false [0,3] [0,3] [mm 17 3,oC 18 Ba 17 1,mm 3 18])))
def znC:LC:=zfQ
theorem zdP:ELq znC zfQ:=fun _ _ _=>rfl
def c220:LC:=(sr [0] [0] [mB 2 false] (.seq (sr [0] [0,12] [mm 6 0,oo 7 Be [.t 6,.c (.str [])],mm 8 7,sO 12 8 [mm 9 0,oA 10 (.len true) 9,oC 11 Bg 10 30] (.t 11)] (cD 12 (sr [] [2] [mB 2 false] .ret) .skip)) (.seq (sr [0] [0,3] [mK 3 0] (.block 0 [] (.loop [0,3] znC))) (sr [] [2] [mB 2 true] .ret))))
def zjK:FI:=⟨1,55,c220,[.tmp 2]⟩
theorem zy4:zh Tryz.prog 220 zjK=true:=by kernel_rfl
def zi4:LC:=(.seq (sr [0,1,4,6] [0,1,4,6,10] [mm 7 6,mm 8 0,oA 9 Ln 8,oB 10 Bl 7 9] (cD 10 .skip (.exit 0))) (.seq (.block 1 [0,1,4,6] (sr [0,1,4,6] [0,1,4,6,19] [mm 13 0,mm 14 6,oB 15 (iA 3) 13 14,ff 16 0 15,ll 17 16,mm 18 1,oB 19 Be 17 18] (cD 19 (sr [0,4,6] [4,5] [mm 20 0,mm 21 6,oB 22 (iA 3) 20 21,oA 23 (Lt 3) 22,sT 3 4 23,mB 5 true] .ret) .skip))) (.reg false [0,1,4,6] [0,1,4,6] [mm 11 6,oC 12 Ba 11 1,mm 6 12])))
def zkT:LC:=zi4
theorem zhk:ELq zkT zi4:=fun _ _ _=>rfl
def c221:LC:=(sr [0,1] [0,1,4] [oo 4 (.box 3) [.c (.agg [(.str []),iZ,iZ])],mB 5 false] (.seq (sr [0,1,4] [0,1,4,6] [mK 6 0] (.block 0 [4] (.loop [0,1,4,6] zkT))) (sr [4] [4,5] [oo 24 (.bld [(.str []),iZ,iZ] []) [],sT 3 4 24,mB 5 false] .ret)))
def zoj:FI:=⟨2,25,c221,[.cell 4 true 3,.tmp 5]⟩
theorem zy3:zh Tryz.prog 221 zoj=true:=by kernel_rfl
def c227:LC:=(sr [0,1] [2,3] [oA 2 (.box 2) 0,oA 3 (.box 2) 1,mK 4 0] (.seq (sr [2,3] [2,3,9] [ff 5 0 2,ll 6 5,ff 7 0 3,ll 8 7,oB 9 Bn 6 8] (cD 9 (sr [2,3] [4] [ff 10 0 2,ll 11 10,ff 12 0 3,ll 13 12,oB 14 (.bin .sub) 11 13,mm 4 14] .ret) .skip)) .any))
def zvj:FI:=⟨2,20,c227,[.tmp 4]⟩
theorem zy2:zh Tryz.prog 227 zvj=true:=by kernel_rfl
def zcX:LC:=(sr [1,2,6,16,17,18] [1,2,6,16,17,18,19] [oB 19 Bl 18 17] (.seq (cD 19 .skip (.exit 0)) (.seq (.block 1 [1,2,6,16,17,18] (sr [1,2,6,16,17,18] [1,2,6,8,16,17,18] [oB 20 (iA 5) 16 18,oA 21 (Lt 5) 20,oo 8 (.box 5) [.c (.agg [iZ,iZ,(.str []),iZ,nL])],sT 5 8 21] (sr [1,2,6,8,16,17,18] [1,2,6,9,10,16,17,18] [oA 23 (Lt 5) 8,mm 24 1,oB 25 (pC 229) 23 24,mm 22 25,oA 26 (.ext 0) 22,oA 27 (.ext 1) 22,mm 9 26,mm 10 27] (.seq (sr [1,2,6,9,10,16,17,18] [1,2,6,9,10,16,17,18,29] [mm 28 10,oC 29 Bn 28 0] (cD 29 (sr [10] [4,5] [mm 30 10,mK 4 0,mm 5 30] .ret) .skip)) (.reg false [1,2,6,9,16,17,18] [1,2,6,16,17,18] [mm 31 6,mm 32 9,oo 33 (.bsl true 1 1 iZ [0]) [.t 32],oB 34 (.app 1) 31 33,mm 6 34]))))) (.reg false [1,2,6,16,17,18] [1,2,6,16,17,18] [oC 35 Ba 18 1,mm 18 35]))))
def zik:LC:=zcX
theorem zbw:ELq zik zcX:=fun _ _ _=>rfl
def c229:LC:=(sr [0,1] [1,2] [oA 2 (.box 5) 0,mK 4 0,mK 5 0] (sr [1,2] [1,2,6] [oo 6 .mv [.c nL]] (.seq (sr [1,2,6] [1,2,6,16,17,18] [ff 15 4 2,ll 16 15,oA 17 Ln 16,mK 18 0] (.block 0 [1,2,6] (.loop [1,2,6,16,17,18] zik))) (sr [1,2,6] [1,2,6,12] [mK 11 0,mK 12 0] (.seq (sr [1,2,6,12] [1,2,6,12,37] [ff 36 0 2,ll 37 36] (.block 2 [11,12] (sr [1,2,6,12,37] [1,2,6,12,37,53] [oC 54 Be 37 1,mm 53 54] (cD 53 (.reg false [2,12] [11,12] [ff 55 3 2,ll 56 55,mm 11 56]) (sr [1,2,6,12,37] [1,2,6,12,37,57] [oC 58 Be 37 2,mm 57 58] (cD 57 (sr [1,2,12] [12,13] [mm 60 1,ff 61 2 2,ll 62 61,oB 63 (pC 235) 60 62,mm 59 63,oA 64 (.ext 0) 59,oA 65 (.ext 1) 59,oo 13 (.box 3) [.c (.agg [(.str []),iZ,iZ])],sT 3 13 64,mm 14 65] (.reg false [12,13] [11,12] [ff 66 2 13,ll 67 66,mm 11 67])) (sr [2,6,12,37] [2,6,12,68] [oC 69 Be 37 3,mm 68 69] (cD 68 (sr [2,6,12] [2,6,11,12] [mm 70 6,oC 71 (iA 1) 70 0,ll 72 71,oA 73 .neg 72,mm 11 73] (sr [2,6,11,12] [6,11,12,76] [ff 74 1 2,ll 75 74,oC 76 Be 75 2] (cD 76 (.reg false [6,12] [11,12] [mm 77 6,oC 78 (iA 1) 77 0,ll 79 78,oo 80 (.bin .sub) [kk 1,.t 79],mm 11 80]) .skip))) (.reg true [2,6] [11,12] [oo 39 (pC 232) [],ff 40 1 2,ll 41 40,oo 42 (.mget 0 false (.agg [(.str []),iZ,iZ,iZ,.nilf])) [.t 39,.t 41],oA 43 (.fldv false 1 4) 42,mm 44 6,oC 45 (iA 1) 44 0,ll 46 45,mm 47 6,oC 48 (iA 1) 47 1,ll 49 48,oo 50 .callv [.t 43,.t 46,.t 49],mm 38 50,oA 51 (.ext 0) 38,oA 52 (.ext 1) 38,mm 11 51,mm 12 52]))))))))) (.seq (sr [11,12] [11,12,87] [mm 81 12,oC 82 Be 81 0,mm 83 82,sA 87 83 [mm 84 11,oA 85 (pC 239) 84,oC 86 Bg 85 1099511627776] 86] (cD 87 (.reg false [11] [11,12] [mK 12 14]) .skip)) (.seq (sr [11,12] [11,12,89] [mm 88 12,oC 89 Bn 88 0] (cD 89 (sr [12] [4,5] [mm 90 12,mK 4 0,mm 5 90] .ret) .skip)) (sr [11] [4,5] [mm 91 11,mm 4 91,mK 5 0] .ret))))))))
def zdN:FI:=⟨2,92,c229,[.tmp 4,.tmp 5]⟩
theorem zy1:zh Tryz.prog 229 zdN=true:=by kernel_rfl
def c230:LC:=(.reg false [0,1] [] [oA 3 (Lt 5) 1,mm 4 0,oB 5 (.call 231) 3 4])
def zoi:FI:=⟨2,6,c230,[]⟩
theorem zy0:zh Tryz.prog 230 zoi=true:=by kernel_rfl
def zeG:LC:=(sr [1,12,13,14] [1,12,13,14,15] [oB 15 Bl 14 13] (.seq (cD 15 .skip (.exit 0)) (.seq (.block 1 [1,12,13,14] (sr [1,12,13,14] [1,6,12,13,14] [oB 16 (iA 5) 12 14,oA 17 (Lt 5) 16,oo 6 (.box 5) [.c (.agg [iZ,iZ,(.str []),iZ,nL])],sT 5 6 17] (sr [1,6,12,13,14] [1,12,13,14,21] [oA 18 (Lt 5) 6,mm 19 1,oB 20 (.call 231) 18 19,oA 21 .not 20] (cD 21 (sr [] [4] [mB 4 false] .ret) .skip)))) (.reg false [1,12,13,14] [1,12,13,14] [oC 22 Ba 14 1,mm 14 22]))))
def zkS:LC:=zeG
theorem zde:ELq zkS zeG:=fun _ _ _=>rfl
def c231:LC:=(sr [0,1] [1,2] [oA 2 (.box 5) 0,mB 4 false] (.seq (sr [1,2] [1,2,10] [mm 7 1,oA 8 (Lt 5) 2,oB 9 .callv 7 8,oA 10 .not 9] (cD 10 (sr [] [4] [mB 4 false] .ret) .skip)) (.seq (sr [1,2] [1,12,13,14] [ff 11 4 2,ll 12 11,oA 13 Ln 12,mK 14 0] (.block 0 [] (.loop [1,12,13,14] zkS))) (sr [] [4] [mB 4 true] .ret))))
def zhb:FI:=⟨2,23,c231,[.tmp 4]⟩
theorem zyZ:zh Tryz.prog 231 zhb=true:=by kernel_rfl
def c232:LC:=(sr [] [] [oo 0 .mv [.c .nilm]] (sr [] [1,2] [mK 1 1,mK 2 2] (sr [1,2] [0] [oo 3 .mkmap [],mm 4 1,mm 5 1,oo 6 (.call 240) [.c (.clo 241 [] [])],oo 7 (.bld [(.str []),iZ,iZ,iZ,.nilf] [(0,1),(1,1),(2,1),(3,1),(4,1)]) [.c (.str [43]),kk 4,.t 4,.t 5,.t 6],.op none (.mput 0) [.t 3,kk 3,.t 7],mm 8 1,mm 9 1,oo 10 (.call 240) [.c (.clo 242 [] [])],oo 11 (.bld [(.str []),iZ,iZ,iZ,.nilf] [(0,1),(1,1),(2,1),(3,1),(4,1)]) [.c (.str [45]),kk 4,.t 8,.t 9,.t 10],.op none (.mput 0) [.t 3,kk 4,.t 11],mm 12 1,mm 13 1,oo 14 (.bld [(.str []),iZ,iZ,iZ,.nilf] [(0,1),(1,1),(2,1),(3,1),(4,1)]) [.c (.str [42]),kk 5,.t 12,.t 13,.c (.clo 243 [] [])],.op none (.mput 0) [.t 3,kk 5,.t 14],mm 15 1,mm 16 1,oo 17 (.call 244) [.c (.clo 245 [] [])],oo 18 (.bld [(.str []),iZ,iZ,iZ,.nilf] [(0,1),(1,1),(2,1),(3,1),(4,1)]) [.c (.str [47]),kk 5,.t 15,.t 16,.t 17],.op none (.mput 0) [.t 3,kk 6,.t 18],mm 19 1,mm 20 1,oo 21 (.call 244) [.c (.clo 246 [] [])],oo 22 (.bld [(.str []),iZ,iZ,iZ,.nilf] [(0,1),(1,1),(2,1),(3,1),(4,1)]) [.c (.str [37]),kk 5,.t 19,.t 20,.t 21],.op none (.mput 0) [.t 3,kk 7,.t 22],mm 23 2,oo 24 (.call 247) [.c (.clo 248 [] [])],oo 25 (.bld [(.str []),iZ,iZ,iZ,.nilf] [(0,1),(1,1),(2,1),(3,1),(4,1)]) [.c (.str [61,61]),kk 3,kk 0,.t 23,.t 24],.op none (.mput 0) [.t 3,kk 8,.t 25],mm 26 2,oo 27 (.call 247) [.c (.clo 249 [] [])],oo 28 (.bld [(.str []),iZ,iZ,iZ,.nilf] [(0,1),(1,1),(2,1),(3,1),(4,1)]) [.c (.str [33,61]),kk 3,kk 0,.t 26,.t 27],.op none (.mput 0) [.t 3,kk 9,.t 28],mm 29 1,mm 30 2,oo 31 (.call 247) [.c (.clo 250 [] [])],oo 32 (.bld [(.str []),iZ,iZ,iZ,.nilf] [(0,1),(1,1),(2,1),(3,1),(4,1)]) [.c (.str [60]),kk 3,.t 29,.t 30,.t 31],.op none (.mput 0) [.t 3,kk 10,.t 32],mm 33 1,mm 34 2,oo 35 (.call 247) [.c (.clo 251 [] [])],oo 36 (.bld [(.str []),iZ,iZ,iZ,.nilf] [(0,1),(1,1),(2,1),(3,1),(4,1)]) [.c (.str [60,61]),kk 3,.t 33,.t 34,.t 35],.op none (.mput 0) [.t 3,kk 11,.t 36],mm 37 1,mm 38 2,oo 39 (.call 247) [.c (.clo 252 [] [])],oo 40 (.bld [(.str []),iZ,iZ,iZ,.nilf] [(0,1),(1,1),(2,1),(3,1),(4,1)]) [.c (.str [62]),kk 3,.t 37,.t 38,.t 39],.op none (.mput 0) [.t 3,kk 12,.t 40],mm 41 1,mm 42 2,oo 43 (.call 247) [.c (.clo 253 [] [])],oo 44 (.bld [(.str []),iZ,iZ,iZ,.nilf] [(0,1),(1,1),(2,1),(3,1),(4,1)]) [.c (.str [62,61]),kk 3,.t 41,.t 42,.t 43],.op none (.mput 0) [.t 3,kk 13,.t 44],mm 45 2,mm 46 2,oo 47 (.call 247) [.c (.clo 254 [] [])],oo 48 (.bld [(.str []),iZ,iZ,iZ,.nilf] [(0,1),(1,1),(2,1),(3,1),(4,1)]) [.c (.str [38,38]),kk 2,.t 45,.t 46,.t 47],.op none (.mput 0) [.t 3,kk 14,.t 48],mm 49 2,mm 50 2,oo 51 (.call 247) [.c (.clo 255 [] [])],oo 52 (.bld [(.str []),iZ,iZ,iZ,.nilf] [(0,1),(1,1),(2,1),(3,1),(4,1)]) [.c (.str [124,124]),kk 1,.t 49,.t 50,.t 51],.op none (.mput 0) [.t 3,kk 15,.t 52],mm 53 3,mm 0 53] .ret)))
def zvi:FI:=⟨0,54,c232,[.tmp 0]⟩
theorem zyY:zh Tryz.prog 232 zvi=true:=by kernel_rfl
def zdX:LC:=(sr [0,3,7] [0,3,7,8,9] [oA 8 .nxt 7,oA 9 (.ext 0) 8] (.seq (cD 9 .skip (.exit 0)) (.block 1 [0,3,7] (sr [0,3,7,8] [0,3,4,5,7] [oA 10 (.ext 1) 8,oA 11 (.ext 2) 8,mm 4 10,mm 5 11] (sr [0,3,4,5,7] [0,3,7,31] [mm 12 3,mm 13 5,oB 14 .callv 12 13,oA 15 .not 14,mm 16 15,sA 31 16 [mm 17 4,oC 18 Be 17 0,mm 19 18,sO 30 19 [mm 20 5,oo 21 Bn [.t 20,.c (.int .i32 95)],mm 22 21,sA 29 22 [mm 23 5,oo 24 Bl [.t 23,.c (.int .i32 48)],mm 25 24,sO 28 25 [mm 26 5,oo 27 Bg [.t 26,.c (.int .i32 57)]] (.t 27)] 28] (.t 29)] 30] (cD 31 (sr [] [2] [mB 2 false] .ret) .skip))))))
def znB:LC:=zdX
theorem zcj:ELq znB zdX:=fun _ _ _=>rfl
def c233:LC:=(sr [0] [0] [mB 2 false] (sr [0] [0,3] [oo 3 .mv [.c (.clo 256 [] [])]] (.seq (sr [0,3] [0,3,7] [mm 6 0,oA 7 .rngs 6] (.block 0 [0] (.loop [0,3,7] znB))) (sr [0] [2] [mm 32 0,oA 33 (.len true) 32,oC 34 (.bin .geq) 33 1,mm 35 34,sA 39 35 [mm 36 0,oA 37 (.len true) 36,oC 38 (.bin .leq) 37 30] 38,mm 2 39] .ret))))
def zoh:FI:=⟨1,40,c233,[.tmp 2]⟩
theorem zyX:zh Tryz.prog 233 zoh=true:=by kernel_rfl
def c235:LC:=(sr [0,1] [0,3,4] [oA 3 (.box 1) 1,oo 4 (.box 3) [.c (.agg [(.str []),iZ,iZ])],mB 5 false] (sr [0,3,4] [0,4,6] [mm 7 0,oA 8 (.clo 267 0) 3,oB 9 (.call 266) 7 8,mm 6 9] (.seq (sr [0,4,6] [0,4,6,11] [mm 10 6,oC 11 Bl 10 0] (cD 11 (sr [4] [4,5] [oo 12 (.bld [(.str []),iZ,iZ] []) [],sT 3 4 12,mB 5 false] .ret) .skip)) (sr [0,4,6] [4,5] [mm 13 0,mm 14 6,oB 15 (iA 3) 13 14,oA 16 (Lt 3) 15,sT 3 4 16,mB 5 true] .ret))))
def zog:FI:=⟨2,17,c235,[.cell 4 true 3,.tmp 5]⟩
theorem zyW:zh Tryz.prog 235 zog=true:=by kernel_rfl
abbrev zmF:LC:=(sr [1,2,8,21] [1,2,8,97] [oC 98 Be 21 15,mm 97 98] (cD 97 (.reg false [1,2] [8] [mm 99 1,oC 100 Bn 99 0,mm 101 100,sO 104 101 [mm 102 2,oC 103 Bn 102 0] (.t 103),oA 105 (pC 269) 104,mm 8 105]) .skip))
def zsB:LC:=zmF
@[simp] theorem evy236_0:ELq zsB zmF:=fun _ _ _=>rfl
abbrev zmE:LC:=(sr [1,2,8,21] [1,2,8,21,88] [oC 89 Be 21 14,mm 88 89] (cD 88 (.reg false [1,2] [8] [mm 90 1,oC 91 Bn 90 0,mm 92 91,sA 95 92 [mm 93 2,oC 94 Bn 93 0] 94,oA 96 (pC 269) 95,mm 8 96]) zsB))
def zsA:LC:=zmE
@[simp] theorem evy236_1:ELq zsA zmE:=fun _ _ _=>rfl
abbrev zmD:LC:=(sr [1,2,8,21] [1,2,8,21,82] [oC 83 Be 21 13,mm 82 83] (cD 82 (.reg false [1,2] [8] [mm 84 1,mm 85 2,oB 86 (.bin .geq) 84 85,oA 87 (pC 269) 86,mm 8 87]) zsA))
def zsz:LC:=zmD
@[simp] theorem evy236_2:ELq zsz zmD:=fun _ _ _=>rfl
abbrev zmC:LC:=(sr [1,2,8,21] [1,2,8,21,76] [oC 77 Be 21 12,mm 76 77] (cD 76 (.reg false [1,2] [8] [mm 78 1,mm 79 2,oB 80 Bg 78 79,oA 81 (pC 269) 80,mm 8 81]) zsz))
def zsy:LC:=zmC
@[simp] theorem evy236_3:ELq zsy zmC:=fun _ _ _=>rfl
abbrev zmB:LC:=(sr [1,2,8,21] [1,2,8,21,70] [oC 71 Be 21 11,mm 70 71] (cD 70 (.reg false [1,2] [8] [mm 72 1,mm 73 2,oB 74 (.bin .leq) 72 73,oA 75 (pC 269) 74,mm 8 75]) zsy))
def zsx:LC:=zmB
@[simp] theorem evy236_4:ELq zsx zmB:=fun _ _ _=>rfl
abbrev zmA:LC:=(sr [1,2,8,21] [1,2,8,21,64] [oC 65 Be 21 10,mm 64 65] (cD 64 (.reg false [1,2] [8] [mm 66 1,mm 67 2,oB 68 Bl 66 67,oA 69 (pC 269) 68,mm 8 69]) zsx))
def zsw:LC:=zmA
@[simp] theorem evy236_5:ELq zsw zmA:=fun _ _ _=>rfl
abbrev zmz:LC:=(sr [1,2,8,21] [1,2,8,21,58] [oC 59 Be 21 9,mm 58 59] (cD 58 (.reg false [1,2] [8] [mm 60 1,mm 61 2,oB 62 Bn 60 61,oA 63 (pC 269) 62,mm 8 63]) zsw))
def zsv:LC:=zmz
@[simp] theorem evy236_6:ELq zsv zmz:=fun _ _ _=>rfl
abbrev zmy:LC:=(sr [1,2,8,21] [1,2,8,21,52] [oC 53 Be 21 8,mm 52 53] (cD 52 (.reg false [1,2] [8] [mm 54 1,mm 55 2,oB 56 Be 54 55,oA 57 (pC 269) 56,mm 8 57]) zsv))
def zsu:LC:=zmy
@[simp] theorem evy236_7:ELq zsu zmy:=fun _ _ _=>rfl
abbrev zmx:LC:=(sr [1,2,8,21] [1,2,8,21,42] [oC 43 Be 21 6,mm 42 43] (cD 42 (.reg false [1,2] [8] [mm 44 1,mm 45 2,oB 46 (.bin .quo) 44 45,mm 8 46]) (sr [1,2,8,21] [1,2,8,21,47] [oC 48 Be 21 7,mm 47 48] (cD 47 (.reg false [1,2] [8] [mm 49 1,mm 50 2,oB 51 (.bin .rem) 49 50,mm 8 51]) zsu))))
def zst:LC:=zmx
@[simp] theorem evy236_8:ELq zst zmx:=fun _ _ _=>rfl
abbrev zmw:LC:=(sr [1,2,8,21] [1,2,8,21,32] [oC 33 Be 21 5,mm 32 33] (cD 32 (sr [1,2] [9,10] [mm 35 1,mm 36 2,oB 37 (pC 268) 35 36,mm 34 37,oA 38 (.ext 0) 34,oA 39 (.ext 1) 34,mm 9 38,mm 10 39] (sr [9,10] [6,7] [mm 40 9,mm 41 10,mm 6 40,mm 7 41] .ret)) zst))
def zmv:LC:=zmw
@[simp] theorem evy236_9:ELq zmv zmw:=fun _ _ _=>rfl
def c236:LC:=(sr [0,1,2] [0,1,2] [mK 6 0,mK 7 0] (.seq (sr [0,1,2] [0,1,2,20] [mm 11 0,oC 12 Be 11 6,mm 13 12,sO 16 13 [mm 14 0,oC 15 Be 14 7] (.t 15),mm 17 16,sA 20 17 [mm 18 2,oC 19 Be 18 0] 19] (cD 20 (sr [] [6,7] [mK 6 0,mK 7 24] .ret) .skip)) (sr [0,1,2] [0,1,2,8] [mK 8 0] (.seq (sr [0,1,2,8] [1,2,8,21] [mm 21 0] (.block 0 [8] (sr [1,2,8,21] [1,2,8,21,22] [oC 23 Be 21 3,mm 22 23] (cD 22 (.reg false [1,2] [8] [mm 24 1,mm 25 2,oB 26 Ba 24 25,mm 8 26]) (sr [1,2,8,21] [1,2,8,21,27] [oC 28 Be 21 4,mm 27 28] (cD 27 (.reg false [1,2] [8] [mm 29 1,mm 30 2,oB 31 (.bin .sub) 29 30,mm 8 31]) zmv)))))) (.seq (sr [8] [8,111] [mm 106 8,oo 107 Bl [.t 106,.c (.int .i64 (-1099511627776))],mm 108 107,sO 111 108 [mm 109 8,oC 110 Bg 109 1099511627776] (.t 110)] (cD 111 (sr [] [6,7] [mK 6 0,mK 7 14] .ret) .skip)) (sr [8] [6,7] [mm 112 8,mm 6 112,mK 7 0] .ret))))))
def zf0:FI:=⟨3,113,c236,[.tmp 6,.tmp 7]⟩
theorem zyV:zh Tryz.prog 236 zf0=true:=by kernel_rfl
def c239:LC:=(sr [0] [0] [mK 2 0] (sr [0] [2] [mm 3 0,mm 4 0,oA 5 .neg 4,oB 6 .mx 3 5,mm 2 6] .ret))
def zl1:FI:=⟨1,7,c239,[.tmp 2]⟩
theorem zyU:zh Tryz.prog 239 zl1=true:=by kernel_rfl
def c240:LC:=(sr [0] [1] [oA 1 (.box 1) 0,oo 2 .mv [.c .nilf]] (sr [1] [2] [oA 3 (.clo 279 0) 1,mm 2 3] .ret))
def zvh:FI:=⟨1,4,c240,[.tmp 2]⟩
theorem zyT:zh Tryz.prog 240 zvh=true:=by kernel_rfl
def c241:LC:=(sr [0,1] [0,1] [mK 4 0] (sr [0,1] [4] [mm 5 0,mm 6 1,oB 7 Ba 5 6,mm 4 7] .ret))
def zrx:FI:=⟨2,8,c241,[.tmp 4]⟩
theorem zyS:zh Tryz.prog 241 zrx=true:=by kernel_rfl
def c242:LC:=(sr [0,1] [0,1] [mK 4 0] (sr [0,1] [4] [mm 5 0,mm 6 1,oB 7 (.bin .sub) 5 6,mm 4 7] .ret))
def zrw:FI:=⟨2,8,c242,[.tmp 4]⟩
theorem zyR:zh Tryz.prog 242 zrw=true:=by kernel_rfl
def c243:LC:=(sr [0,1] [0,1] [mK 4 0,mK 5 0] (.seq (sr [0,1] [0,1,15] [mm 6 1,oC 7 Bn 6 0,mm 8 7,sA 15 8 [mm 9 0,oA 10 (pC 239) 9,mm 11 1,oA 12 (pC 239) 11,oo 13 (.bin .quo) [kk 1099511627776,.t 12],oB 14 Bg 10 13] 14] (cD 15 (sr [] [4,5] [mK 4 0,mK 5 14] .ret) .skip)) (sr [0,1] [4,5] [mm 16 0,mm 17 1,oB 18 (.bin .mul) 16 17,mm 4 18,mK 5 0] .ret)))
def zl0:FI:=⟨2,19,c243,[.tmp 4,.tmp 5]⟩
theorem zyQ:zh Tryz.prog 243 zl0=true:=by kernel_rfl
def c244:LC:=(sr [0] [1] [oA 1 (.box 1) 0,oo 2 .mv [.c .nilf]] (sr [1] [2] [oA 3 (.clo 280 0) 1,mm 2 3] .ret))
def zvg:FI:=⟨1,4,c244,[.tmp 2]⟩
theorem zyP:zh Tryz.prog 244 zvg=true:=by kernel_rfl
def c245:LC:=(sr [0,1] [0,1] [mK 4 0] (sr [0,1] [4] [mm 5 0,mm 6 1,oB 7 (.bin .quo) 5 6,mm 4 7] .ret))
def zrv:FI:=⟨2,8,c245,[.tmp 4]⟩
theorem zyO:zh Tryz.prog 245 zrv=true:=by kernel_rfl
def c246:LC:=(sr [0,1] [0,1] [mK 4 0] (sr [0,1] [4] [mm 5 0,mm 6 1,oB 7 (.bin .rem) 5 6,mm 4 7] .ret))
def zru:FI:=⟨2,8,c246,[.tmp 4]⟩
theorem zyN:zh Tryz.prog 246 zru=true:=by kernel_rfl
def c247:LC:=(sr [0] [1] [oA 1 (.box 1) 0,oo 2 .mv [.c .nilf]] (sr [1] [2] [oA 3 (.clo 281 0) 1,oA 4 (.call 240) 3,mm 2 4] .ret))
def zvf:FI:=⟨1,5,c247,[.tmp 2]⟩
theorem zyM:zh Tryz.prog 247 zvf=true:=by kernel_rfl
def c248:LC:=(sr [0,1] [0,1] [mB 4 false] (sr [0,1] [4] [mm 5 0,mm 6 1,oB 7 Be 5 6,mm 4 7] .ret))
def zrt:FI:=⟨2,8,c248,[.tmp 4]⟩
theorem zyL:zh Tryz.prog 248 zrt=true:=by kernel_rfl
def c249:LC:=(sr [0,1] [0,1] [mB 4 false] (sr [0,1] [4] [mm 5 0,mm 6 1,oB 7 Bn 5 6,mm 4 7] .ret))
def zrs:FI:=⟨2,8,c249,[.tmp 4]⟩
theorem zyK:zh Tryz.prog 249 zrs=true:=by kernel_rfl
def c250:LC:=(sr [0,1] [0,1] [mB 4 false] (sr [0,1] [4] [mm 5 0,mm 6 1,oB 7 Bl 5 6,mm 4 7] .ret))
def zrr:FI:=⟨2,8,c250,[.tmp 4]⟩
theorem zyJ:zh Tryz.prog 250 zrr=true:=by kernel_rfl
def c251:LC:=(sr [0,1] [0,1] [mB 4 false] (sr [0,1] [4] [mm 5 0,mm 6 1,oB 7 (.bin .leq) 5 6,mm 4 7] .ret))
def zrq:FI:=⟨2,8,c251,[.tmp 4]⟩
theorem zyI:zh Tryz.prog 251 zrq=true:=by kernel_rfl
def c252:LC:=(sr [0,1] [0,1] [mB 4 false] (sr [0,1] [4] [mm 5 0,mm 6 1,oB 7 Bg 5 6,mm 4 7] .ret))
def zrp:FI:=⟨2,8,c252,[.tmp 4]⟩
theorem zyH:zh Tryz.prog 252 zrp=true:=by kernel_rfl
def c253:LC:=(sr [0,1] [0,1] [mB 4 false] (sr [0,1] [4] [mm 5 0,mm 6 1,oB 7 (.bin .geq) 5 6,mm 4 7] .ret))
def zro:FI:=⟨2,8,c253,[.tmp 4]⟩
theorem zyG:zh Tryz.prog 253 zro=true:=by kernel_rfl
def c254:LC:=(sr [0,1] [0,1] [mB 4 false] (sr [0,1] [4] [mm 5 0,oC 6 Bn 5 0,mm 7 6,sA 10 7 [mm 8 1,oC 9 Bn 8 0] 9,mm 4 10] .ret))
def zrn:FI:=⟨2,11,c254,[.tmp 4]⟩
theorem zyF:zh Tryz.prog 254 zrn=true:=by kernel_rfl
def c255:LC:=(sr [0,1] [0,1] [mB 4 false] (sr [0,1] [4] [mm 5 0,oC 6 Bn 5 0,mm 7 6,sO 10 7 [mm 8 1,oC 9 Bn 8 0] (.t 9),mm 4 10] .ret))
def zrm:FI:=⟨2,11,c255,[.tmp 4]⟩
theorem zyE:zh Tryz.prog 255 zrm=true:=by kernel_rfl
def c256:LC:=(sr [0] [0] [mB 2 false] (sr [0] [2] [mm 3 0,oo 4 (.bin .geq) [.t 3,.c (.int .i32 97)],mm 5 4,sA 8 5 [mm 6 0,oo 7 (.bin .leq) [.t 6,.c (.int .i32 122)]] 7,mm 2 8] .ret))
def zrl:FI:=⟨1,9,c256,[.tmp 2]⟩
theorem zyD:zh Tryz.prog 256 zrl=true:=by kernel_rfl
def zgA:LC:=(sr [0,1,7,8] [0,1,7,8,9] [oB 9 Bl 8 7] (.seq (cD 9 .skip (.exit 0)) (.seq (.block 1 [0,1,7,8] (sr [0,1,7,8] [0,1,5,7,8] [mm 10 8,mm 5 10] (sr [0,1,5,7,8] [0,1,5,7,8,16] [mm 11 1,mm 12 0,mm 13 5,oB 14 (iA 3) 12 13,oA 15 (Lt 3) 14,oB 16 .callv 11 15] (cD 16 (sr [5] [4] [mm 17 5,mm 4 17] .ret) .skip)))) (.reg false [0,1,7,8] [0,1,7,8] [oC 18 Ba 8 1,mm 8 18]))))
def znA:LC:=zgA
theorem ze0:ELq znA zgA:=fun _ _ _=>rfl
def c266:LC:=(sr [0,1] [0,1] [mK 4 0] (.seq (sr [0,1] [0,1,7,8] [mm 6 0,oA 7 Ln 6,mK 8 0] (.block 0 [] (.loop [0,1,7,8] znA))) (sr [] [4] [oo 4 .mv [.c (.int .i64 (-1))]] .ret)))
def zof:FI:=⟨2,19,c266,[.tmp 4]⟩
theorem zyC:zh Tryz.prog 266 zof=true:=by kernel_rfl
def c267:LC:=(sr [0,1] [1,2] [oA 2 (.box 3) 0,mB 3 false] (sr [1,2] [3] [ff 4 0 2,ll 5 4,ll 6 1,oB 7 Be 5 6,mm 3 7] .ret))
def zrk:FI:=⟨2,8,c267,[.tmp 3]⟩
theorem zyB:zh Tryz.prog 267 zrk=true:=by kernel_rfl
def c268:LC:=(sr [0,1] [0,1] [mK 4 0,mK 5 0] (sr [0,1] [0,1,6,7] [mm 8 0,mm 9 1,mm 6 8,mm 7 9] (.seq (sr [0,1,6,7] [0,1,6,7,11] [mm 10 6,oC 11 Bl 10 0] (cD 11 (.reg false [0,1,6,7] [0,1,6,7] [mm 12 6,oA 13 .neg 12,mm 6 13]) .skip)) (.seq (sr [0,1,6,7] [0,1,6,7,15] [mm 14 7,oC 15 Bl 14 0] (cD 15 (.reg false [0,1,6,7] [0,1,6,7] [mm 16 7,oA 17 .neg 16,mm 7 17]) .skip)) (.seq (sr [0,1,6,7] [0,1,25] [mm 18 6,oC 19 Bn 18 0,mm 20 19,sA 25 20 [mm 21 7,mm 22 6,oo 23 (.bin .quo) [kk 1099511627776,.t 22],oB 24 Bg 21 23] 24] (cD 25 (sr [] [4,5] [mK 4 0,mK 5 14] .ret) .skip)) (sr [0,1] [4,5] [mm 26 0,mm 27 1,oB 28 (.bin .mul) 26 27,mm 4 28,mK 5 0] .ret))))))
def zeL:FI:=⟨2,29,c268,[.tmp 4,.tmp 5]⟩
theorem zyA:zh Tryz.prog 268 zeL=true:=by kernel_rfl
def c269:LC:=(sr [0] [0] [mK 2 0] (.seq (sr [0] [3] [mm 3 0] (cD 3 (sr [] [2] [mK 2 1] .ret) .skip)) (sr [] [2] [mK 2 0] .ret)))
def zrj:FI:=⟨1,4,c269,[.tmp 2]⟩
theorem zyz:zh Tryz.prog 269 zrj=true:=by kernel_rfl
def c279:LC:=(sr [0,1,2] [0,1,2] [mK 5 0,mK 6 0] (sr [0,1,2] [5,6] [ll 7 2,mm 8 0,mm 9 1,oo 10 .callv [.t 7,.t 8,.t 9],mm 5 10,mK 6 0] .ret))
def zeg:FI:=⟨3,11,c279,[.tmp 5,.tmp 6]⟩
theorem zyy:zh Tryz.prog 279 zeg=true:=by kernel_rfl
def c280:LC:=(sr [0,1,2] [0,1,2] [mK 5 0,mK 6 0] (.seq (sr [0,1,2] [0,1,2,8] [mm 7 1,oC 8 Be 7 0] (cD 8 (sr [] [5,6] [mK 5 0,mK 6 24] .ret) .skip)) (sr [0,1,2] [5,6] [ll 9 2,mm 10 0,mm 11 1,oo 12 .callv [.t 9,.t 10,.t 11],mm 5 12,mK 6 0] .ret)))
def zjJ:FI:=⟨3,13,c280,[.tmp 5,.tmp 6]⟩
theorem zyx:zh Tryz.prog 280 zjJ=true:=by kernel_rfl
def c281:LC:=(sr [0,1,2] [0,1,2] [mK 5 0] (.seq (sr [0,1,2] [9] [ll 6 2,mm 7 0,mm 8 1,oo 9 .callv [.t 6,.t 7,.t 8]] (cD 9 (sr [] [5] [mK 5 1] .ret) .skip)) (sr [] [5] [mK 5 0] .ret)))
def zfG:FI:=⟨3,10,c281,[.tmp 5]⟩
theorem zyw:zh Tryz.prog 281 zfG=true:=by kernel_rfl
def tbl:List (Nat×FI):=[(3,fi3),(9,fi9),(10,fi10),(11,fi11),(12,fi12),(13,fi13),(14,fi14),(15,fi15),(16,fi16),(17,fi17),(18,fi18),(19,fi19),(20,fi20),(23,fi23),(24,fi24),(25,fi25),(26,fi26),(35,fi35),(36,fi36),(37,fi37),(38,fi38),(39,fi39),(40,fi40),(41,fi41),(42,fi42),(43,fi43),(44,fi44),(45,fi45),(46,fi46),(47,fi47),(48,fi48),(49,fi49),(50,fi50),(51,fi51),(52,fi52),(53,fi53),(54,fi54),(55,fi55),(56,fi56),(57,fi57),(58,fi58),(59,fi59),(60,fi60),(61,fi61),(62,fi62),(63,fi63),(64,fi64),(65,fi65),(66,fi66),(67,fi67),(68,fi68),(69,fi69),(70,fi70),(71,fi71),(72,fi72),(73,fi73),(74,fi74),(75,fi75),(76,fi76),(77,fi77),(78,fi78),(83,fi83),(84,fi84),(85,fi85),(86,fi86),(87,fi87),(88,fi88),(89,fi89),(90,fi90),(91,fi91),(92,fi92),(93,fi93),(94,fi94),(95,fi95),(96,fi96),(97,fi97),(98,fi98),(99,fi99),(100,zma),(101,zrY),(102,ziL),(103,zrX),(104,zl9),(105,ziK),(107,zvy),(110,zvx),(111,zvw),(112,zoJ),(113,zoI),(114,zrW),(115,zvv),(116,zl8),(117,zrV),(118,zvu),(119,zvt),(120,zvs),(121,zrU),(122,zrT),(123,ziJ),(124,zrS),(125,zcz),(126,ziI),(128,zoH),(130,zoG),(131,zoF),(132,zl7),(133,zoE),(134,zdu),(135,zdh),(136,zoD),(137,zeN),(138,ziH),(139,zoC),(140,zrR),(141,zrQ),(142,zhd),(143,zdO),(144,zl6),(145,zoB),(146,zeM),(147,zbW),(148,zl5),(149,zrP),(150,zoA),(151,zvr),(155,zvq),(156,zoz),(157,zvp),(158,zvo),(159,zoy),(161,zox),(162,zrO),(163,zvn),(164,zjM),(165,zrN),(166,zrM),(167,zow),(168,zvm),(169,zov),(170,zrL),(171,zrK),(172,zrJ),(173,zhc),(174,zrI),(175,zrH),(176,zl4),(177,zou),(178,zrG),(179,zbV),(190,zvl),(191,zvk),(192,zrF),(193,zrE),(194,zrD),(195,zot),(196,zjL),(197,zos),(198,zor),(199,zoq),(200,zrC),(201,zop),(202,zl3),(203,zrB),(204,zrA),(205,ziG),(206,zoo),(207,zrz),(208,zon),(209,zom),(210,zry),(211,zf1),(214,zol),(215,zok),(216,zdt),(217,zfH),(218,ziF),(219,zl2),(220,zjK),(221,zoj),(227,zvj),(229,zdN),(230,zoi),(231,zhb),(232,zvi),(233,zoh),(235,zog),(236,zf0),(239,zl1),(240,zvh),(241,zrx),(242,zrw),(243,zl0),(244,zvg),(245,zrv),(246,zru),(247,zvf),(248,zrt),(249,zrs),(250,zrr),(251,zrq),(252,zrp),(253,zro),(254,zrn),(255,zrm),(256,zrl),(266,zof),(267,zrk),(268,zeL),(269,zrj),(279,zeg),(280,zjJ),(281,zfG)]
def Φ:FuncId→Option FI:=look tbl
theorem Φ_ok:∀f fi,Φ f=some fi→FnOK Tryz.prog f fi:=znx (by
  simp only[tbl,zmt,zpO,and_true]
  exact⟨ok3,ok9,ok10,ok11,ok12,ok13,ok14,ok15,ok16,ok17,ok18,ok19,ok20,ok23,ok24,ok25,ok26,ok35,ok36,ok37,ok38,ok39,ok40,ok41,ok42,ok43,ok44,ok45,ok46,ok47,ok48,ok49,ok50,ok51,ok52,ok53,ok54,ok55,ok56,ok57,ok58,ok59,ok60,ok61,ok62,ok63,ok64,ok65,ok66,ok67,ok68,ok69,ok70,ok71,ok72,ok73,ok74,ok75,ok76,ok77,ok78,ok83,ok84,ok85,ok86,ok87,ok88,ok89,ok90,ok91,ok92,ok93,ok94,ok95,ok96,ok97,ok98,ok99,zAG,zAF,zAE,zAD,zAC,zAB,zAA,zAz,zAy,zAx,zAw,zAv,zAu,zAt,zAs,zAr,zAq,zAp,zAo,zAn,zAm,zAl,zAk,zAj,zAi,zAh,zAg,zAf,zAe,zAd,zAb,zAa,zz9,zz8,zz7,zz6,zz5,zz4,zz3,zz2,zz1,zz0,zzZ,zzY,zzX,zzW,zzV,zzU,zzT,zzS,zzR,zzQ,zzP,zzO,zzN,zzM,zzL,zzK,zzJ,zzI,zzH,zzG,zzF,zzE,zzD,zzC,zzB,zzA,zzz,zzy,zzx,zzw,zzv,zzu,zzt,zzs,zzr,zzq,zzp,zzo,zzn,zzm,zzl,zzk,zzj,zzi,zzh,zzg,zzf,zze,zzd,zzc,zzb,zza,zy9,zy8,zy7,zy6,zy5,zy4,zy3,zy2,zy1,zy0,zyZ,zyY,zyX,zyW,zyV,zyU,zyT,zyS,zyR,zyQ,zyP,zyO,zyN,zyM,zyL,zyK,zyJ,zyI,zyH,zyG,zyF,zyE,zyD,zyC,zyB,zyA,zyz,zyy,zyx,zyw⟩)
theorem Φ3:Φ 3=some fi3:=rfl
theorem Φ9:Φ 9=some fi9:=rfl
theorem Φ10:Φ 10=some fi10:=rfl
theorem Φ11:Φ 11=some fi11:=rfl
theorem Φ12:Φ 12=some fi12:=rfl
theorem Φ13:Φ 13=some fi13:=rfl
theorem Φ14:Φ 14=some fi14:=rfl
theorem Φ15:Φ 15=some fi15:=rfl
theorem Φ16:Φ 16=some fi16:=rfl
theorem Φ17:Φ 17=some fi17:=rfl
theorem Φ18:Φ 18=some fi18:=rfl
theorem Φ19:Φ 19=some fi19:=rfl
theorem Φ20:Φ 20=some fi20:=rfl
theorem Φ23:Φ 23=some fi23:=rfl
theorem Φ24:Φ 24=some fi24:=rfl
theorem Φ25:Φ 25=some fi25:=rfl
theorem Φ26:Φ 26=some fi26:=rfl
theorem Φ35:Φ 35=some fi35:=rfl
theorem Φ36:Φ 36=some fi36:=rfl
theorem Φ37:Φ 37=some fi37:=rfl
theorem Φ38:Φ 38=some fi38:=rfl
theorem Φ39:Φ 39=some fi39:=rfl
theorem Φ40:Φ 40=some fi40:=rfl
theorem Φ41:Φ 41=some fi41:=rfl
theorem Φ42:Φ 42=some fi42:=rfl
theorem Φ43:Φ 43=some fi43:=rfl
theorem Φ44:Φ 44=some fi44:=rfl
theorem Φ45:Φ 45=some fi45:=rfl
theorem Φ46:Φ 46=some fi46:=rfl
theorem Φ47:Φ 47=some fi47:=rfl
theorem Φ48:Φ 48=some fi48:=rfl
theorem Φ49:Φ 49=some fi49:=rfl
theorem Φ50:Φ 50=some fi50:=rfl
theorem Φ51:Φ 51=some fi51:=rfl
theorem Φ52:Φ 52=some fi52:=rfl
theorem Φ53:Φ 53=some fi53:=rfl
theorem Φ54:Φ 54=some fi54:=rfl
theorem Φ55:Φ 55=some fi55:=rfl
theorem Φ56:Φ 56=some fi56:=rfl
theorem Φ57:Φ 57=some fi57:=rfl
theorem Φ58:Φ 58=some fi58:=rfl
theorem Φ59:Φ 59=some fi59:=rfl
theorem Φ60:Φ 60=some fi60:=rfl
theorem Φ61:Φ 61=some fi61:=rfl
theorem Φ62:Φ 62=some fi62:=rfl
theorem Φ63:Φ 63=some fi63:=rfl
theorem Φ64:Φ 64=some fi64:=rfl
theorem Φ65:Φ 65=some fi65:=rfl
theorem Φ66:Φ 66=some fi66:=rfl
theorem Φ67:Φ 67=some fi67:=rfl
theorem Φ68:Φ 68=some fi68:=rfl
theorem Φ69:Φ 69=some fi69:=rfl
theorem Φ70:Φ 70=some fi70:=rfl
theorem Φ71:Φ 71=some fi71:=rfl
theorem Φ72:Φ 72=some fi72:=rfl
theorem Φ73:Φ 73=some fi73:=rfl
theorem Φ74:Φ 74=some fi74:=rfl
theorem Φ75:Φ 75=some fi75:=rfl
theorem Φ76:Φ 76=some fi76:=rfl
theorem Φ77:Φ 77=some fi77:=rfl
theorem Φ78:Φ 78=some fi78:=rfl
theorem Φ83:Φ 83=some fi83:=rfl
theorem Φ84:Φ 84=some fi84:=rfl
theorem Φ85:Φ 85=some fi85:=rfl
theorem Φ86:Φ 86=some fi86:=rfl
theorem Φ87:Φ 87=some fi87:=rfl
theorem Φ88:Φ 88=some fi88:=rfl
theorem Φ89:Φ 89=some fi89:=rfl
theorem Φ90:Φ 90=some fi90:=rfl
theorem Φ91:Φ 91=some fi91:=rfl
theorem Φ92:Φ 92=some fi92:=rfl
theorem Φ93:Φ 93=some fi93:=rfl
theorem Φ94:Φ 94=some fi94:=rfl
theorem Φ95:Φ 95=some fi95:=rfl
theorem Φ96:Φ 96=some fi96:=rfl
theorem Φ97:Φ 97=some fi97:=rfl
theorem Φ98:Φ 98=some fi98:=rfl
theorem Φ99:Φ 99=some fi99:=rfl
theorem Φ100:Φ 100=some zma:=rfl
theorem Φ101:Φ 101=some zrY:=rfl
theorem Φ102:Φ 102=some ziL:=rfl
theorem Φ103:Φ 103=some zrX:=rfl
theorem Φ104:Φ 104=some zl9:=rfl
theorem Φ105:Φ 105=some ziK:=rfl
theorem Φ107:Φ 107=some zvy:=rfl
theorem Φ110:Φ 110=some zvx:=rfl
theorem Φ111:Φ 111=some zvw:=rfl
theorem Φ112:Φ 112=some zoJ:=rfl
theorem Φ113:Φ 113=some zoI:=rfl
theorem Φ114:Φ 114=some zrW:=rfl
theorem Φ115:Φ 115=some zvv:=rfl
theorem Φ116:Φ 116=some zl8:=rfl
theorem Φ117:Φ 117=some zrV:=rfl
theorem Φ118:Φ 118=some zvu:=rfl
theorem Φ119:Φ 119=some zvt:=rfl
theorem Φ120:Φ 120=some zvs:=rfl
theorem Φ121:Φ 121=some zrU:=rfl
theorem Φ122:Φ 122=some zrT:=rfl
theorem Φ123:Φ 123=some ziJ:=rfl
theorem Φ124:Φ 124=some zrS:=rfl
theorem Φ125:Φ 125=some zcz:=rfl
theorem Φ126:Φ 126=some ziI:=rfl
theorem Φ128:Φ 128=some zoH:=rfl
theorem Φ130:Φ 130=some zoG:=rfl
theorem Φ131:Φ 131=some zoF:=rfl
theorem Φ132:Φ 132=some zl7:=rfl
theorem Φ133:Φ 133=some zoE:=rfl
theorem Φ134:Φ 134=some zdu:=rfl
theorem Φ135:Φ 135=some zdh:=rfl
theorem Φ136:Φ 136=some zoD:=rfl
theorem Φ137:Φ 137=some zeN:=rfl
theorem Φ138:Φ 138=some ziH:=rfl
theorem Φ139:Φ 139=some zoC:=rfl
theorem Φ140:Φ 140=some zrR:=rfl
theorem Φ141:Φ 141=some zrQ:=rfl
theorem Φ142:Φ 142=some zhd:=rfl
theorem Φ143:Φ 143=some zdO:=rfl
theorem Φ144:Φ 144=some zl6:=rfl
theorem Φ145:Φ 145=some zoB:=rfl
theorem Φ146:Φ 146=some zeM:=rfl
theorem Φ147:Φ 147=some zbW:=rfl
theorem Φ148:Φ 148=some zl5:=rfl
theorem Φ149:Φ 149=some zrP:=rfl
theorem Φ150:Φ 150=some zoA:=rfl
theorem Φ151:Φ 151=some zvr:=rfl
theorem Φ155:Φ 155=some zvq:=rfl
theorem Φ156:Φ 156=some zoz:=rfl
theorem Φ157:Φ 157=some zvp:=rfl
theorem Φ158:Φ 158=some zvo:=rfl
theorem Φ159:Φ 159=some zoy:=rfl
theorem Φ161:Φ 161=some zox:=rfl
theorem Φ162:Φ 162=some zrO:=rfl
theorem Φ163:Φ 163=some zvn:=rfl
theorem Φ164:Φ 164=some zjM:=rfl
theorem Φ165:Φ 165=some zrN:=rfl
theorem Φ166:Φ 166=some zrM:=rfl
theorem Φ167:Φ 167=some zow:=rfl
theorem Φ168:Φ 168=some zvm:=rfl
theorem Φ169:Φ 169=some zov:=rfl
theorem Φ170:Φ 170=some zrL:=rfl
theorem Φ171:Φ 171=some zrK:=rfl
theorem Φ172:Φ 172=some zrJ:=rfl
theorem Φ173:Φ 173=some zhc:=rfl
theorem Φ174:Φ 174=some zrI:=rfl
theorem Φ175:Φ 175=some zrH:=rfl
theorem Φ176:Φ 176=some zl4:=rfl
theorem Φ177:Φ 177=some zou:=rfl
theorem Φ178:Φ 178=some zrG:=rfl
theorem Φ179:Φ 179=some zbV:=rfl
theorem Φ190:Φ 190=some zvl:=rfl
theorem Φ191:Φ 191=some zvk:=rfl
theorem Φ192:Φ 192=some zrF:=rfl
theorem Φ193:Φ 193=some zrE:=rfl
theorem Φ194:Φ 194=some zrD:=rfl
theorem Φ195:Φ 195=some zot:=rfl
theorem Φ196:Φ 196=some zjL:=rfl
theorem Φ197:Φ 197=some zos:=rfl
theorem Φ198:Φ 198=some zor:=rfl
theorem Φ199:Φ 199=some zoq:=rfl
theorem Φ200:Φ 200=some zrC:=rfl
theorem Φ201:Φ 201=some zop:=rfl
theorem Φ202:Φ 202=some zl3:=rfl
theorem Φ203:Φ 203=some zrB:=rfl
theorem Φ204:Φ 204=some zrA:=rfl
theorem Φ205:Φ 205=some ziG:=rfl
theorem Φ206:Φ 206=some zoo:=rfl
theorem Φ207:Φ 207=some zrz:=rfl
theorem Φ208:Φ 208=some zon:=rfl
theorem Φ209:Φ 209=some zom:=rfl
theorem Φ210:Φ 210=some zry:=rfl
theorem Φ211:Φ 211=some zf1:=rfl
theorem Φ214:Φ 214=some zol:=rfl
theorem Φ215:Φ 215=some zok:=rfl
theorem Φ216:Φ 216=some zdt:=rfl
theorem Φ217:Φ 217=some zfH:=rfl
theorem Φ218:Φ 218=some ziF:=rfl
theorem Φ219:Φ 219=some zl2:=rfl
theorem Φ220:Φ 220=some zjK:=rfl
theorem Φ221:Φ 221=some zoj:=rfl
theorem Φ227:Φ 227=some zvj:=rfl
theorem Φ229:Φ 229=some zdN:=rfl
theorem Φ230:Φ 230=some zoi:=rfl
theorem Φ231:Φ 231=some zhb:=rfl
theorem Φ232:Φ 232=some zvi:=rfl
theorem Φ233:Φ 233=some zoh:=rfl
theorem Φ235:Φ 235=some zog:=rfl
theorem Φ236:Φ 236=some zf0:=rfl
theorem Φ239:Φ 239=some zl1:=rfl
theorem Φ240:Φ 240=some zvh:=rfl
theorem Φ241:Φ 241=some zrx:=rfl
theorem Φ242:Φ 242=some zrw:=rfl
theorem Φ243:Φ 243=some zl0:=rfl
theorem Φ244:Φ 244=some zvg:=rfl
theorem Φ245:Φ 245=some zrv:=rfl
theorem Φ246:Φ 246=some zru:=rfl
theorem Φ247:Φ 247=some zvf:=rfl
theorem Φ248:Φ 248=some zrt:=rfl
theorem Φ249:Φ 249=some zrs:=rfl
theorem Φ250:Φ 250=some zrr:=rfl
theorem Φ251:Φ 251=some zrq:=rfl
theorem Φ252:Φ 252=some zrp:=rfl
theorem Φ253:Φ 253=some zro:=rfl
theorem Φ254:Φ 254=some zrn:=rfl
theorem Φ255:Φ 255=some zrm:=rfl
theorem Φ256:Φ 256=some zrl:=rfl
theorem Φ266:Φ 266=some zof:=rfl
theorem Φ267:Φ 267=some zrk:=rfl
theorem Φ268:Φ 268=some zeL:=rfl
theorem Φ269:Φ 269=some zrj:=rfl
theorem Φ279:Φ 279=some zeg:=rfl
theorem Φ280:Φ 280=some zjJ:=rfl
theorem Φ281:Φ 281=some zfG:=rfl
end Go.Proofs.YtbddckhdbnmamaaGreat
