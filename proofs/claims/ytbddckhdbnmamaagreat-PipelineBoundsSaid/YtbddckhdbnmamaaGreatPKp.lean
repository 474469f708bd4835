/-
  Names: isName of the program and of the reference (conditions: none). isName of the program: a loop over the string's runes (conditions: none). isName; Keyword of the reference (conditions: none).
-/
import Derived.Test.YtbddckhdbnmamaaGreatPrep
namespace Go.Proofs.YtbddckhdbnmamaaGreat
open Go Go.RowKit
set_option linter.unusedVariables false
set_option linter.unusedSimpArgs false
set_option maxRecDepth 10000
def nmI (k:Nat) (v:Int):Bool:=(decide (97≤v)&&decide (v≤122))||(decide (k≠0)&&((decide (48≤v)&&decide (v≤57))||decide (v=95)))
def zbR:List UInt8→Nat→Bool
 | [],_=>true
 |b::r,k=>nmI k b.toNat&&zbR r (k+1)
def isNm (s:List UInt8):Bool:=zbR s 0&&decide (1≤s.length)&&decide (s.length≤30)
theorem zlp {s:List UInt8} {p:Nat} {b:UInt8} (h:s[p]?=some b):(⟨s.toArray⟩:ByteArray).get! p=b:=by
 have hp:p<s.length:=(gEs.1 h).1
 have:=(gEs.1 h).2
 show s.toArray[p]! =b
 simp[hp,this]
theorem zm0 {s:List UInt8} {p:Nat} {b:UInt8} (h:s[p]?=some b) (hb:b.toNat<128):zcx s p=(b.toNat,1):=by
 have e:(⟨s.toArray⟩:ByteArray).get! (p+0)=b:=zlp h
 simp only[zcx,Utf8.decode,e,hb,if_true]
theorem zkK {s:List UInt8} {p:Nat} {b:UInt8} (h:s[p]?=some b) (hb:¬b.toNat<128):128≤(zcx s p).1:=by
 have e:(⟨s.toArray⟩:ByteArray).get! (p+0)=b:=zlp h
 simp only[zcx,Utf8.decode,e]
 rw[if_neg hb]
 have hr:128≤Utf8.runeError:=by decide
 repeat' split
 all_goals first
  |exact hr
  |(simp only[ge_iff_le,bAt,dTe]at *;omega)
theorem e245 (c:Int) (H:Heap):W.call (.clo 256 [] []) [.int .i32 c] H=some (.bool (decide (97≤c)&&decide (c≤122)),H):=by
 rw[ze Φ256]
 by_cases a1:97≤c<;>simp[znP,c256,a1]
theorem zpM (s:List UInt8):∀(r:List UInt8) (k:Nat),s.drop k=r→k≤s.length→∀H:Heap,H[0]?=some (.sit s k)→
  okC (W.loop [0,3,7] zk9 [(0,.str s),(3,.clo 256 [] []),(7,.oit 0)] H) (fun x F' H'=>if zbR r k=true then x= .exit 0∧F'.get 0= .str s else x= .ret∧F'.get 2= .bool false):=by
 intro r
 induction r with
 |nil=>
  intro k h1 h2 H hH
  have:s.length≤k:=by simpa using h1
  have hk:¬k<s.length:=by omega
  rw[zc]
  simp[zbL,zda,hH,hk,zbR]
 |cons b r ih=>
  intro k h1 h2 H hH
  have hlt:k<s.length:=by
   rcases Nat.lt_or_ge k s.length with h|h
   .exact h
   .rw[List.drop_eq_nil_of_le h]at h1;cases h1
  have hb:s[k]?=some b:=by rw[←List.head?_drop,h1];rfl
  have hr:s.drop (k+1)=r:=by rw[←List.drop_drop,h1];rfl
  have h0:0<H.length:=(gEs.1 hH).1
  rw[zc]
  by_cases hlow:b.toNat<128
  .have hru:=zm0 hb hlow
   have hJ:=ih (k+1) hr (by omega) (H.set 0 (.sit s (k+1))) (gEt h0)
   obtain⟨v,hv⟩:∃v:Int,(b.toNat:Int)=v:=⟨_,rfl⟩
   have c245:=e245 v
   cases hn:nmI k b.toNat with
   |true=>
    have hgo:zbR (b::r) k=zbR r (k+1):=by simp[zbR,hn]
    rw[hgo]
    rw[hv]at hn
    simp[nmI]at hn
    by_cases a0:k=0
    .subst a0
     simp at hn
     have hc:¬(v<97∨122<v):=by omega
     simp[zbL,zda,hH,hlt,hru,hv,c245,hc]
     simpa using hJ
    .simp[a0]at hn
     have hc:¬((v<97∨122<v)∧¬v=95∧(v<48∨57<v)):=by omega
     simp[zbL,zda,hH,hlt,hru,hv,c245,a0,hc]
     simpa using hJ
   |false=>
    have hgo:zbR (b::r) k=false:=by simp[zbR,hn]
    rw[hgo]
    rw[hv]at hn
    simp[nmI]at hn
    by_cases a0:k=0
    .subst a0
     have hc:v<97∨122<v:=by omega
     simp[zbL,zda,hH,hlt,hru,hv,c245,hc]
    .have hc:(v<97∨122<v)∧¬v=95∧(v<48∨57<v):=by
      simp[a0]at hn
      omega
     simp[zbL,zda,hH,hlt,hru,hv,c245,a0,hc]
  .have hru:=zkK hb hlow
   have hgo:zbR (b::r) k=false:=by
    have:nmI k b.toNat=false:=by simp[nmI];omega
    simp[zbR,this]
   rw[hgo]
   obtain⟨v,hv⟩:∃v:Int,((zcx s k).1:Int)=v:=⟨_,rfl⟩
   have c245:=e245 v
   have hc:v<97∨122<v:=by omega
   have hc2:(v<97∨122<v)∧¬v=95∧(v<48∨57<v):=by omega
   by_cases a0:k=0
   .subst a0
    simp[zbL,zda,hH,hlt,hv,c245,hc]
   .simp[zbL,zda,hH,hlt,hv,c245,a0,hc2]
theorem e212 (s:List UInt8):W.pure 233 [.str s]=some (.bool (isNm s)):=by
 rw[zj Φ233 rfl]
 have hL:=zpM s s 0 rfl (by omega) [.sit s 0] rfl
 obtain⟨x,F',H',e1,hx⟩:=zf.1 hL
 cases hf:zbR s 0 with
 |true=>
  rw[hf,if_pos rfl]at hx
  obtain⟨rfl,p⟩:=hx
  have q1:decide ((1:Int)≤s.length)=decide (1≤s.length):=by rw[Bool.eq_iff_iff];simp;omega
  have q2:decide ((s.length:Int)≤30)=decide (s.length≤30):=by rw[Bool.eq_iff_iff];simp;omega
  by_cases h1:(1:Int)≤s.length<;>by_cases h2:(s.length:Int)≤30<;>simp[zlw,c233,e1,p,isNm,hf,←q1,←q2,h1,h2]
 |false=>
  rw[hf,if_neg (by simp)]at hx
  obtain⟨rfl,p⟩:=hx
  simp[zlw,c233,e1,p,isNm,hf]
end Go.Proofs.YtbddckhdbnmamaaGreat
