/-
  Names: isName of the program and of the reference (conditions: none). isName of the program: a loop over the string's runes (conditions: none). isName; Keyword of the reference (conditions: none). Keyword of the reference: is it one of the words? (conditions: none). Keyword of the reference (conditions: none). Name of the reference (conditions: none). A word in a text of words with blanks between them (conditions: none). strings.Contains, evaluated (conditions: none).
-/
import Derived.Lib.IndexMore
import Derived.Test.YtgamobngbenehaaGreatDoorPrep
section
namespace Go.Proofs.YtgamobngbenehaaGreatDoor
open Go Go.RowKit
set_option linter.unusedVariables false
set_option linter.unusedSimpArgs false
set_option maxRecDepth 10000
def nmI (k:Nat) (v:Int):Bool:=(decide (97≤v)&&decide (v≤122))||(decide (k≠0)&&((decide (48≤v)&&decide (v≤57))||decide (v=95)))
def zbn:List UInt8→Nat→Bool
 | [],_=>true
 |b::r,k=>nmI k b.toNat&&zbn r (k+1)
def isNm (s:List UInt8):Bool:=zbn s 0&&decide (1≤s.length)&&decide (s.length≤30)
end Go.Proofs.YtgamobngbenehaaGreatDoor
end
section
namespace Go.Proofs.YtgamobngbenehaaGreatDoor
open Go Go.RowKit
set_option linter.unusedVariables false
set_option linter.unusedSimpArgs false
set_option maxRecDepth 10000
theorem zku {s:List UInt8} {p:Nat} {b:UInt8} (h:s[p]?=some b):(⟨s.toArray⟩:ByteArray).get! p=b:=by
 have hp:p<s.length:=(gEs.1 h).1
 have:=(gEs.1 h).2
 show s.toArray[p]! =b
 simp[hp,this]
theorem zlM {s:List UInt8} {p:Nat} {b:UInt8} (h:s[p]?=some b) (hb:b.toNat<128):zct s p=(b.toNat,1):=by
 have e:(⟨s.toArray⟩:ByteArray).get! (p+0)=b:=zku h
 simp only[zct,Utf8.decode,e,hb,if_true]
theorem zjv {s:List UInt8} {p:Nat} {b:UInt8} (h:s[p]?=some b) (hb:¬b.toNat<128):128≤(zct s p).1:=by
 have e:(⟨s.toArray⟩:ByteArray).get! (p+0)=b:=zku h
 simp only[zct,Utf8.decode,e]
 rw[if_neg hb]
 have hr:128≤Utf8.runeError:=by decide
 repeat' split
 all_goals first
  |exact hr
  |(simp only[ge_iff_le,Bool.and_eq_true,decide_eq_true_eq]at *;omega)
theorem e245 (c:Int) (H:Heap):W.call (.clo 272 [] []) [.int .i32 c] H=some (.bool (decide (97≤c)&&decide (c≤122)),H):=by
 rw[zL Φ272]
 by_cases a1:97≤c<;>simp[zmu,c272,zi,ze,zd,resV,rvVs,rvV,a1]
theorem znX (s:List UInt8):∀(r:List UInt8) (k:Nat),s.drop k=r→k≤s.length→∀H:Heap,H[0]?=some (.sit s k)→
  okC (W.loop [0,3,7] zka [(0,.str s),(3,.clo 272 [] []),(7,.oit 0)] H) (fun x F' H'=>if zbn r k=true then x= .exit 0∧F'.get 0= .str s else x= .ret∧F'.get 2= .bool false):=by
 intro r
 induction r with
 |nil=>
  intro k h1 h2 H hH
  have:s.length≤k:=by simpa using h1
  have hk:¬k<s.length:=by omega
  rw[zp]
  simp[zbN,zc4,zd,hH,hk,zbn]
 |cons b r ih=>
  intro k h1 h2 H hH
  have hlt:k<s.length:=by
   rcases Nat.lt_or_ge k s.length with h|h
   .exact h
   .rw[List.drop_eq_nil_of_le h]at h1;cases h1
  have hb:s[k]?=some b:=by rw[←List.head?_drop,h1];rfl
  have hr:s.drop (k+1)=r:=by rw[←List.drop_drop,h1];rfl
  have h0:0<H.length:=(gEs.1 hH).1
  rw[zp]
  by_cases hlow:b.toNat<128
  .have hru:=zlM hb hlow
   have hJ:=ih (k+1) hr (by omega) (H.set 0 (.sit s (k+1))) (gEt h0)
   obtain⟨v,hv⟩:∃v:Int,(b.toNat:Int)=v:=⟨_,rfl⟩
   have c245:=e245 v
   cases hn:nmI k b.toNat with
   |true=>
    have hgo:zbn (b::r) k=zbn r (k+1):=by simp[zbn,hn]
    rw[hgo]
    rw[hv]at hn
    simp[nmI]at hn
    by_cases a0:k=0
    .subst a0
     simp at hn
     have hc:¬(v<97∨122<v):=by omega
     simp[zbN,zc4,zd,hH,hlt,hru,hv,c245,hc]
     simpa using hJ
    .simp[a0]at hn
     have hc:¬((v<97∨122<v)∧¬v=95∧(v<48∨57<v)):=by omega
     simp[zbN,zc4,zd,hH,hlt,hru,hv,c245,a0,hc]
     simpa using hJ
   |false=>
    have hgo:zbn (b::r) k=false:=by simp[zbn,hn]
    rw[hgo]
    rw[hv]at hn
    simp[nmI]at hn
    by_cases a0:k=0
    .subst a0
     have hc:v<97∨122<v:=by omega
     simp[zbN,zc4,zd,hH,hlt,hru,hv,c245,hc]
    .have hc:(v<97∨122<v)∧¬v=95∧(v<48∨57<v):=by
      simp[a0]at hn
      omega
     simp[zbN,zc4,zd,hH,hlt,hru,hv,c245,a0,hc]
  .have hru:=zjv hb hlow
   have hgo:zbn (b::r) k=false:=by
    have:nmI k b.toNat=false:=by simp[nmI];omega
    simp[zbn,this]
   rw[hgo]
   obtain⟨v,hv⟩:∃v:Int,((zct s k).1:Int)=v:=⟨_,rfl⟩
   have c245:=e245 v
   have hc:v<97∨122<v:=by omega
   have hc2:(v<97∨122<v)∧¬v=95∧(v<48∨57<v):=by omega
   by_cases a0:k=0
   .subst a0
    simp[zbN,zc4,zd,hH,hlt,hv,c245,hc]
   .simp[zbN,zc4,zd,hH,hlt,hv,c245,a0,hc2]
end Go.Proofs.YtgamobngbenehaaGreatDoor
end
section
namespace Go.Proofs.YtgamobngbenehaaGreatDoor
open Go Go.RowKit
set_option linter.unusedVariables false
set_option linter.unusedSimpArgs false
set_option maxRecDepth 10000
theorem e212 (s:List UInt8):W.pure 222 [.str s]=some (.bool (isNm s)):=by
 rw[zG Φ222 rfl]
 have hL:=znX s s 0 rfl (by omega) [.sit s 0] rfl
 obtain⟨x,F',H',e1,hx⟩:=zr.1 hL
 cases hf:zbn s 0 with
 |true=>
  rw[hf,if_pos rfl]at hx
  obtain⟨rfl,p⟩:=hx
  have q1:decide ((1:Int)≤s.length)=decide (1≤s.length):=by rw[Bool.eq_iff_iff];simp;omega
  have q2:decide ((s.length:Int)≤30)=decide (s.length≤30):=by rw[Bool.eq_iff_iff];simp;omega
  by_cases h1:(1:Int)≤s.length<;>by_cases h2:(s.length:Int)≤30<;>simp[zkE,c222,zi,ze,zd,resV,rvVs,rvV,e1,p,isNm,hf,←q1,←q2,h1,h2]
 |false=>
  rw[hf,if_neg (by simp)]at hx
  obtain⟨rfl,p⟩:=hx
  simp[zkE,c222,zi,ze,zd,resV,rvVs,rvV,e1,p,isNm,hf]
end Go.Proofs.YtgamobngbenehaaGreatDoor
end
section
namespace Go.Proofs.YtgamobngbenehaaGreatDoor
open Go Go.RowKit
set_option linter.unusedVariables false
set_option linter.unusedSimpArgs false
set_option maxRecDepth 10000
def zaH:List (List UInt8):=[[97,99,113,117,105,114,101],
 [97,100,100],
 [97,110,121],
 [97,114,114,105,118,101],
 [97,115],
 [97,115,115,101,114,116],
 [97,116,111,109,105,99],
 [97,119,97,105,116],
 [98,97,114,114,105,101,114],
 [98,101,103,105,110],
 [98,114,111,97,100,99,97,115,116],
 [98,117,100,103,101,116],
 [99,97,108,108],
 [99,97,110,99,101,108],
 [99,104,97,110,110,101,108],
 [99,104,101,99,107,112,111,105,110,116],
 [99,108,101,97,110,117,112],
 [99,108,111,115,101],
 [99,111,109,112,108,101,116,101],
 [99,111,110,100],
 [100,101,97,100,108,105,110,101],
 [100,101,102,97,117,108,116],
 [100,101,102,101,114],
 [101,108,115,101],
 [101,109,105,116],
 [101,110,100],
 [101,118,101,114,121],
 [102,97,105,108],
 [102,117,110,99],
 [102,117,116,117,114,101],
 [105,102],
 [108,101,116],
 [108,105,109,105,116,101,114],
 [108,111,99,107],
 [109,97,115,107],
 [109,117,116,101,120],
 [110,101,120,116],
 [111,110],
 [112,114,105,111,114,105,116,121],
 [112,117,98,108,105,115,104],
 [114,101,97,100,108,111,99,107],
 [114,101,97,100,117,110,108,111,99,107],
 [114,101,99,101,105,118,101],
 [114,101,108,101,97,115,101],
 [114,101,112,101,97,116],
 [114,101,116,117,114,110],
 [114,119,108,111,99,107],
 [115,99,111,112,101],
 [115,101,108,101,99,116],
 [115,101,109,97,112,104,111,114,101],
 [115,101,110,100],
 [115,105,103,110,97,108],
 [115,108,101,101,112],
 [115,112,97,119,110],
 [115,117,98,115,99,114,105,98,101],
 [115,119,97,112],
 [116,97,107,101],
 [116,97,115,107],
 [116,111,112,105,99],
 [116,114,121,97,99,113,117,105,114,101],
 [116,114,121,108,111,99,107],
 [117,110,108,111,99,107],
 [117,110,115,117,98,115,99,114,105,98,101],
 [118,97,114],
 [119,97,105,116],
 [119,104,105,108,101],
 [119,114,105,116,101,108,111,99,107],
 [119,114,105,116,101,117,110,108,111,99,107],
 [121,105,101,108,100]]
end Go.Proofs.YtgamobngbenehaaGreatDoor
end
section
namespace Go.Proofs.YtgamobngbenehaaGreatDoor
open Go Go.RowKit
set_option linter.unusedVariables false
set_option linter.unusedSimpArgs false
set_option maxRecDepth 10000
theorem lit148:bslE 1 (List.replicate 69 (.str [])) (List.range 69) (zaH.map .str)=some (zaH.map .str):=by rfl
theorem still148:(zaH.map AV.str).all (fun e=>e.cells.all AV.still)=true:=by rfl
end Go.Proofs.YtgamobngbenehaaGreatDoor
end
section
namespace Go.Proofs.YtgamobngbenehaaGreatDoor
open Go Go.RowKit
set_option linter.unusedVariables false
set_option linter.unusedSimpArgs false
set_option maxRecDepth 10000
def zT (s:List UInt8):Bool:=isNm s&& !decide (s∈zaH)
end Go.Proofs.YtgamobngbenehaaGreatDoor
end
section
namespace Go.Proofs.YtgamobngbenehaaGreatDoor
open Go Go.RowKit
set_option linter.unusedVariables false
set_option linter.unusedSimpArgs false
theorem zcd (sub:List UInt8):Lib.contains [] sub=sub.isEmpty:=by
 unfold Lib.contains Lib.index
 cases sub<;>simp
theorem zbR (b:UInt8) (l sub:List UInt8):Lib.contains (b::l) sub=(sub.isPrefixOf (b::l)||Lib.contains l sub):=by
 have hg:=Lib.index_ge l sub
 unfold Lib.contains
 rw[Lib.index]
 by_cases h:sub.isPrefixOf (b::l)=true
 .simp[h]
 .simp only[h,if_false,Bool.false_or]
  by_cases h1:Lib.index l sub= -1
  .simp[h1]
  .have h2:0≤Lib.index l sub:=by omega
   have h3:0≤Lib.index l sub+1:=by omega
   simp[h1,h2,h3]
theorem zbQ (t:List UInt8):∀(w l:List UInt8),(∀c∈w,c≠32)→Lib.contains (w++l) (32::t)=Lib.contains l (32::t):=by
 intro w
 induction w with
 |nil=>intro l _;rfl
 |cons c w ih=>
  intro l h
  have hc:c≠32:=h c (by simp)
  have hc':¬(32:UInt8)=c:=fun e=>hc e.symm
  rw[List.cons_append,zbR,ih l (fun d hd=>h d (by simp[hd]))]
  simp[List.isPrefixOf,hc']
theorem zhc:∀(s w X:List UInt8),(∀c∈s,c≠32)→(∀c∈w,c≠32)→(s++[32]).isPrefixOf (w++32::X)=decide (s=w):=by
 intro s
 induction s with
 |nil=>
  intro w X _ hw
  cases w with
  |nil=>simp[List.isPrefixOf]
  |cons c w=>
   have hc:¬(32:UInt8)=c:=fun e=>hw c (by simp) e.symm
   simp[List.isPrefixOf,hc]
 |cons a s ih=>
  intro w X hs hw
  cases w with
  |nil=>
   have ha:a≠32:=hs a (by simp)
   simp[List.isPrefixOf,ha]
  |cons c w=>
   have:=ih w X (fun d hd=>hs d (by simp[hd])) (fun d hd=>hw d (by simp[hd]))
   simp only[List.cons_append,List.isPrefixOf,this]
   by_cases hac:a=c
   .subst hac;simp
   .simp[hac]
def zgl:List (List UInt8)→List UInt8| []=> []|w::r=>w++32::zgl r
theorem zcY (s:List UInt8) (hs:∀c∈s,c≠32):∀ws:List (List UInt8),(∀w∈ws,∀c∈w,c≠32)→Lib.contains (32::zgl ws) (32::(s++[32]))=decide (s∈ws):=by
 intro ws
 induction ws with
 |nil=>
  intro _
  rw[zbR]
  simp only[zgl,zcd]
  cases s<;>simp[List.isPrefixOf]
 |cons w r ih=>
  intro h
  have hw:=h w (by simp)
  rw[zbR]
  simp only[zgl]
  rw[zbQ _ _ _ hw,ih (fun v hv=>h v (by simp[hv]))]
  have hp:=zhc s w (zgl r) hs hw
  simp only[List.isPrefixOf,hp]
  by_cases he:s=w
  .simp[he]
  .simp[he]
end Go.Proofs.YtgamobngbenehaaGreatDoor
end
section
namespace Go.Proofs.YtgamobngbenehaaGreatDoor
open Go Go.RowKit
set_option linter.unusedVariables false
set_option linter.unusedSimpArgs false
theorem e164 (s t:List UInt8) (hl:s.length<4294967281):W.pure 93 [.str s,.str t]=some (.bool (Lib.contains s t)):=by
 have h:Φ 93=none:=by kernel_rfl
 rw[zdb]
 unfold zcL
 have hf:[AV.str s,AV.str t].all AV.flat=true:=rfl
 rw[if_pos hf,h]
 simp[ext,zcZ,hl]
end Go.Proofs.YtgamobngbenehaaGreatDoor
end
