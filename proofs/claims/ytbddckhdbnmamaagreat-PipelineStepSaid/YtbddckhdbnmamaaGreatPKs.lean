/-
  Names: isName of the program and of the reference (conditions: none). isName of the program: a loop over the string's runes (conditions: none). isName; Keyword of the reference (conditions: none).
-/
import Derived.Test.YtbddckhdbnmamaaGreatPres
namespace Go.Proofs.YtbddckhdbnmamaaGreat
open Go Go.RowKit
set_option linter.unusedVariables false
set_option linter.unusedSimpArgs false
set_option maxRecDepth 10000
def nmI (k:Nat) (v:Int):Bool:=(decide (97≤v)&&decide (v≤122))||(decide (k≠0)&&((decide (48≤v)&&decide (v≤57))||decide (v=95)))
def za2:List UInt8→Nat→Bool
 | [],_=>true
 |b::r,k=>nmI k b.toNat&&za2 r (k+1)
def isNm (s:List UInt8):Bool:=za2 s 0&&decide (1≤s.length)&&decide (s.length≤30)
theorem zuc (s:List UInt8) (hl:s.length≤30):∀(r:List UInt8) (k:Nat),s.drop k=r→k≤s.length→∀H:Heap,
  okC (W.loop [0,3] znC [(0,.str s),(3,I k)] H) (fun x F' H'=>if za2 r k=true then x= .exit 0 else x= .ret∧F'.get 2= .bool false):=by
 intro r
 induction r with
 |nil=>
  intro k h1 h2 H
  have:s.length≤k:=by simpa using h1
  have hk:¬(k:Int)<s.length:=by omega
  rw[zb]
  simp[zdP,zfQ,hk,za2]
 |cons b r ih=>
  intro k h1 h2 H
  have hlt:k<s.length:=by
   rcases Nat.lt_or_ge k s.length with h|h
   .exact h
   .rw[List.drop_eq_nil_of_le h]at h1;cases h1
  have hb:s[k]?=some b:=by rw[←List.head?_drop,h1];rfl
  have hr:s.drop (k+1)=r:=by rw[←List.drop_drop,h1];rfl
  have hJ:=ih (k+1) hr (by omega)
  simp only[iNa,iCo]at hJ
  have hw:=zg (k:=k) (by omega)
  rw[zb]
  obtain⟨v,hv⟩:∃v:Int,(b.toNat:Int)=v:=⟨_,rfl⟩
  have hw0:IntKind.wrap .i64 1=1:=by decide
  have hlt':(k:Int)<s.length:=by omega
  have hbk:s[k]=b:=(gEs.1 hb).2
  cases hn:nmI k b.toNat with
  |true=>
   have hgo:za2 (b::r) k=za2 r (k+1):=by simp[za2,hn]
   rw[hgo]
   rw[hv]at hn
   simp[nmI]at hn
   by_cases a0:k=0
   .subst a0
    simp at hn
    have hc:¬(v<97∨122<v):=by omega
    simp[zdP,zfQ,hlt,hbk,hv,hw0,hc]
    simpa using hJ _
   .simp[a0]at hn
    have hc:¬((v<97∨122<v)∧(v<48∨57<v)∧¬v=95):=by omega
    simp[zdP,zfQ,hlt,hbk,hv,hw,a0,hc]
    simpa using hJ _
  |false=>
   have hgo:za2 (b::r) k=false:=by simp[za2,hn]
   rw[hgo]
   rw[hv]at hn
   simp[nmI]at hn
   by_cases a0:k=0
   .subst a0
    have hc:v<97∨122<v:=by omega
    simp[zdP,zfQ,hlt,hbk,hv,hw0,hc]
   .have hc:(v<97∨122<v)∧(v<48∨57<v)∧¬v=95:=by
     simp[a0]at hn
     omega
    simp[zdP,zfQ,hlt,hbk,hv,hw,a0,hc]
theorem e147 (s:List UInt8):W.pure 220 [.str s]=some (.bool (isNm s)):=by
 rw[zd Φ220 rfl]
 by_cases h1:s=[]
 .subst h1
  simp[zjK,c220,zM,isNm]
 .have h0:1≤s.length:=by cases s with|nil=>exact absurd rfl h1|cons a r=>simp
  by_cases h2:30<(s.length:Int)
  .have hn:¬s.length≤30:=by omega
   simp[zjK,c220,zM,h1,h2,isNm,hn]
  .have hl:s.length≤30:=by omega
   have hL:=zuc s hl s 0 rfl (by omega) []
   simp only[Int.natCast_zero]at hL
   obtain⟨x,F',H',e1,hx⟩:=zc.1 hL
   cases hf:za2 s 0 with
   |true=>
    rw[hf,if_pos rfl]at hx
    subst hx
    simp[zjK,c220,zM,h1,h2,e1,isNm,hf,h0,hl]
   |false=>
    rw[hf,if_neg (by simp)]at hx
    obtain⟨rfl,p⟩:=hx
    simp[zjK,c220,zM,h1,h2,e1,p,isNm,hf]
theorem zn9 {s:List UInt8} {p:Nat} {b:UInt8} (h:s[p]?=some b):(⟨s.toArray⟩:ByteArray).get! p=b:=by
 have hp:p<s.length:=(gEs.1 h).1
 have:=(gEs.1 h).2
 show s.toArray[p]! =b
 simp[hp,this]
theorem zp9 {s:List UInt8} {p:Nat} {b:UInt8} (h:s[p]?=some b) (hb:b.toNat<128):zdl s p=(b.toNat,1):=by
 have e:(⟨s.toArray⟩:ByteArray).get! (p+0)=b:=zn9 h
 simp only[zdl,Utf8.decode,e,hb,if_true]
theorem zna {s:List UInt8} {p:Nat} {b:UInt8} (h:s[p]?=some b) (hb:¬b.toNat<128):128≤(zdl s p).1:=by
 have e:(⟨s.toArray⟩:ByteArray).get! (p+0)=b:=zn9 h
 simp only[zdl,Utf8.decode,e]
 rw[if_neg hb]
 have hr:128≤Utf8.runeError:=by decide
 repeat' split
 all_goals first
  |exact hr
  |(simp only[ge_iff_le,bAt,dTe]at *;omega)
theorem e245 (c:Int) (H:Heap):W.call (.clo 256 [] []) [.int .i32 c] H=some (.bool (decide (97≤c)&&decide (c≤122)),H):=by
 rw[zj Φ256]
 by_cases a1:97≤c<;>simp[zrl,c256,a1]
theorem zt4 (s:List UInt8):∀(r:List UInt8) (k:Nat),s.drop k=r→k≤s.length→∀H:Heap,H[0]?=some (.sit s k)→
  okC (W.loop [0,3,7] znB [(0,.str s),(3,.clo 256 [] []),(7,.oit 0)] H) (fun x F' H'=>if za2 r k=true then x= .exit 0∧F'.get 0= .str s else x= .ret∧F'.get 2= .bool false):=by
 intro r
 induction r with
 |nil=>
  intro k h1 h2 H hH
  have:s.length≤k:=by simpa using h1
  have hk:¬k<s.length:=by omega
  rw[zb]
  simp[zcj,zdX,hH,hk,za2]
 |cons b r ih=>
  intro k h1 h2 H hH
  have hlt:k<s.length:=by
   rcases Nat.lt_or_ge k s.length with h|h
   .exact h
   .rw[List.drop_eq_nil_of_le h]at h1;cases h1
  have hb:s[k]?=some b:=by rw[←List.head?_drop,h1];rfl
  have hr:s.drop (k+1)=r:=by rw[←List.drop_drop,h1];rfl
  have h0:0<H.length:=(gEs.1 hH).1
  rw[zb]
  by_cases hlow:b.toNat<128
  .have hru:=zp9 hb hlow
   have hJ:=ih (k+1) hr (by omega) (H.set 0 (.sit s (k+1))) (gEt h0)
   obtain⟨v,hv⟩:∃v:Int,(b.toNat:Int)=v:=⟨_,rfl⟩
   have c245:=e245 v
   cases hn:nmI k b.toNat with
   |true=>
    have hgo:za2 (b::r) k=za2 r (k+1):=by simp[za2,hn]
    rw[hgo]
    rw[hv]at hn
    simp[nmI]at hn
    by_cases a0:k=0
    .subst a0
     simp at hn
     have hc:¬(v<97∨122<v):=by omega
     simp[zcj,zdX,hH,hlt,hru,hv,c245,hc]
     simpa using hJ
    .simp[a0]at hn
     have hc:¬((v<97∨122<v)∧¬v=95∧(v<48∨57<v)):=by omega
     simp[zcj,zdX,hH,hlt,hru,hv,c245,a0,hc]
     simpa using hJ
   |false=>
    have hgo:za2 (b::r) k=false:=by simp[za2,hn]
    rw[hgo]
    rw[hv]at hn
    simp[nmI]at hn
    by_cases a0:k=0
    .subst a0
     have hc:v<97∨122<v:=by omega
     simp[zcj,zdX,hH,hlt,hru,hv,c245,hc]
    .have hc:(v<97∨122<v)∧¬v=95∧(v<48∨57<v):=by
      simp[a0]at hn
      omega
     simp[zcj,zdX,hH,hlt,hru,hv,c245,a0,hc]
  .have hru:=zna hb hlow
   have hgo:za2 (b::r) k=false:=by
    have:nmI k b.toNat=false:=by simp[nmI];omega
    simp[za2,this]
   rw[hgo]
   obtain⟨v,hv⟩:∃v:Int,((zdl s k).1:Int)=v:=⟨_,rfl⟩
   have c245:=e245 v
   have hc:v<97∨122<v:=by omega
   have hc2:(v<97∨122<v)∧¬v=95∧(v<48∨57<v):=by omega
   by_cases a0:k=0
   .subst a0
    simp[zcj,zdX,hH,hlt,hv,c245,hc]
   .simp[zcj,zdX,hH,hlt,hv,c245,a0,hc2]
theorem e212 (s:List UInt8):W.pure 233 [.str s]=some (.bool (isNm s)):=by
 rw[zd Φ233 rfl]
 have hL:=zt4 s s 0 rfl (by omega) [.sit s 0] rfl
 obtain⟨x,F',H',e1,hx⟩:=zc.1 hL
 cases hf:za2 s 0 with
 |true=>
  rw[hf,if_pos rfl]at hx
  obtain⟨rfl,p⟩:=hx
  have q1:decide ((1:Int)≤s.length)=decide (1≤s.length):=by rw[Bool.eq_iff_iff];simp;omega
  have q2:decide ((s.length:Int)≤30)=decide (s.length≤30):=by rw[Bool.eq_iff_iff];simp;omega
  by_cases h1:(1:Int)≤s.length<;>by_cases h2:(s.length:Int)≤30<;>simp[zoh,c233,e1,p,isNm,hf,←q1,←q2,h1,h2]
 |false=>
  rw[hf,if_neg (by simp)]at hx
  obtain⟨rfl,p⟩:=hx
  simp[zoh,c233,e1,p,isNm,hf]
end Go.Proofs.YtbddckhdbnmamaaGreat
