/- What is a decimal number, or one written by sixteens, the library reads whole. What is written by sixteens is read whole; a script's numerals are numbers of layer 4. -/
import Derived.Test.YtgdolcoiihagfaaGreatDoorNmX
import Derived.Test.YtgdolcoiihagfaaGreatDoorRf1
import Derived.Test.YtgdolcoiihagfaaGreatDoorLxP
namespace Go.Proofs.YtgdolcoiihagfaaGreatDoor
open Go Go.RowKit
set_option linter.all false
set_option maxRecDepth 100000
namespace Nm
open Rf (digC hexC go Rs digs Whole IsEx exAt exC)
theorem by8_drop (l:List UInt8) (a k:Nat):by8 (l.drop a) k=by8 l (a + k):=by
 unfold by8;rw [List.getD_eq_getElem?_getD,List.getD_eq_getElem?_getD,List.getElem?_drop]
theorem by8_cons (b:UInt8) (r:List UInt8) (k:Nat):by8 (b :: r) (k + 1)=by8 r k:=by
 unfold by8;rw [List.getD_eq_getElem?_getD,List.getD_eq_getElem?_getD,List.getElem?_cons_succ]
theorem by8_out (l:List UInt8) {i:Nat} (h:l.length≤i):by8 l i=0:=by
 unfold by8;rw [List.getD_eq_getElem?_getD,List.getElem?_eq_none h];rfl
theorem of_all {P:UInt8→Prop} (h:∀ n:Fin 256,P (UInt8.ofNat n.val)) (b:UInt8):P b:=by
 have:=h ⟨b.toNat,UInt8.toNat_lt b⟩
 simpa using this
theorem dig_in (b:UInt8):digits.contains b=true→digC b.toNat=true:=of_all (P:=fun b=>digits.contains b=true→digC b.toNat=true) (by decide +kernel) b
theorem hex_in (b:UInt8):hexes.contains b=true→digC b.toNat=true∨(digC b.toNat=false∧hexC b.toNat=true∧b.toNat≠46) :=
 of_all (P:=fun b=>hexes.contains b=true→digC b.toNat=true∨(digC b.toNat=false∧hexC b.toNat=true∧b.toNat≠46)) (by decide +kernel) b
theorem runGo_at (set:List UInt8):∀ (s:List UInt8) (k:Nat),k < runGo set s→∃ b,b.toNat=by8 s k∧set.contains b=true
 | [],k,h=>by rw [runGo] at h;omega
 | b :: r,0,h=>by
   rw [runGo] at h
   split at h
   · rename_i hc;exact ⟨b,rfl,hc⟩
   · omega
 | b :: r,k + 1,h=>by
   rw [runGo] at h
   split at h
   · rw [by8_cons];exact runGo_at set r k (by omega)
   · omega
theorem go_over (l:List UInt8) (hex:Bool):∀ (n f:Nat) (s:Rs),s.i + n≤l.length→n≤f→(∀ k,s.i≤k→k < s.i + n→digC (by8 l k)=true∨(hex=true∧digC (by8 l k)=false∧hexC (by8 l k)=true∧by8 l k≠46)) →
   ∃ t:Rs,go l hex f s=go l hex (f - n) t∧t.i=s.i + n∧t.dot=s.dot∧t.dig=(s.dig || decide (0 < n))
 | 0,f,s,h,hf,hk=>⟨s,by rw [Nat.sub_zero],by omega,rfl,by simp⟩
 | n + 1,f,s,h,hf,hk=>by
   obtain ⟨f,rfl⟩:∃ g,f=g + 1:=⟨f - 1,by omega⟩
   have h1:∃ t:Rs,Rf.step hex (by8 l s.i) s=some t∧t.i=s.i + 1∧t.dot=s.dot∧t.dig=true:=by
     obtain ⟨i,m,nd,nm,dp,dt,dg,tr⟩:=s
     rcases hk i (Nat.le_refl _) (by simp only;omega) with h2 | ⟨h0,h2,h3,h4⟩
     · by_cases hz:by8 l i=48∧nd=0
       · obtain ⟨h48,rfl⟩:=hz
         simp only
         rw [h48]
         exact ⟨_,Rf.step_zero,rfl,rfl,rfl⟩
       · by_cases hn:nm < Rf.mx hex
         · exact ⟨_,Rf.step_dig h2 hz hn,rfl,rfl,rfl⟩
         · exact ⟨_,Rf.step_over h2 hz hn,rfl,rfl,rfl⟩
     · subst h0
       by_cases hn:nm < 16
       · exact ⟨_,Rf.step_hex h4 h2 h3 hn,rfl,rfl,rfl⟩
       · exact ⟨_,Rf.step_hexo h4 h2 h3 hn,rfl,rfl,rfl⟩
   obtain ⟨t,t1,t2,t3,t4⟩:=h1
   obtain ⟨u,u1,u2,u3,u4⟩:=go_over l hex n f t (by omega) (by omega) (fun k k1 k2=>hk k (by omega) (by omega))
   refine ⟨u,?_,by omega,by rw [u3,t3],by rw [u4,t4];simp⟩
   rw [go,if_pos (by omega),t1]
   simp only
   rw [u1]
   congr 1
   omega
theorem go_halt (l:List UInt8) (hex:Bool) (f:Nat) (s:Rs) (h:s.i < l.length→Rf.step hex (by8 l s.i) s=none):go l hex f s=s:=by
 cases f with
 | zero=>rfl
 | succ f =>
   rw [go]
   split
   · rename_i hl;rw [h hl]
   · rfl
theorem digs_dec (s:List UInt8) (A:Nat) (hA:A≤s.length) (h1:∀ k,k < A→digC (by8 s k)=true) :
   (0 < A→(A=s.length∨(by8 s A≠46∧digC (by8 s A)=false))→(digs s false 0).i=A∧(digs s false 0).dig=true) ∧
   (∀ B,by8 s A=46→A + 1 + B≤s.length→0 < A + B→(∀ k,A + 1≤k→k < A + 1 + B→digC (by8 s k)=true)→(A + 1 + B=s.length∨(by8 s (A + 1 + B)≠46∧digC (by8 s (A + 1 + B))=false))→(digs s false 0).i=A + 1 + B∧(digs s false 0).dig=true):=by
 obtain ⟨t,t1,t2,t3,t4⟩:=go_over s false A (s.length + 1) (Rf.start 0) (by show 0 + A≤_;omega) (by omega) (fun k k1 k2=>.inl (h1 k (by have:k < 0 + A:=k2;omega)))
 have t2':t.i=A:=by rw [t2];show 0 + A=A;omega
 have t3':t.dot=false:=t3
 have hdig:(Rf.start 0).dig=false:=rfl
 rw [hdig,Bool.false_or] at t4
 obtain ⟨i,m,nd,nm,dp,dt,dg,tr⟩:=t
 simp only at t2' t3' t4
 subst t2' t3'
 refine ⟨fun hp he=>?_,fun B h46 hB hAB h2 he=>?_⟩
 · have hd:digs s false 0=⟨i,m,nd,nm,dp,false,dg,tr⟩:=by
     unfold digs;rw [t1]
     refine go_halt _ _ _ _ fun hl=>?_
     rcases he with e | ⟨e1,e2⟩
     · simp only at hl;omega
     · exact Rf.step_none e1 e2 rfl
   rw [hd]
   exact ⟨rfl,by rw [t4];simp;omega⟩
 · obtain ⟨u,u1,u2,u3,u4⟩:=go_over s false B (s.length + 1 - i - 1) ⟨i + 1,m,nd,nm,nd,true,dg,tr⟩ (by simp only;omega) (by omega) (fun k k1 k2=>.inl (h2 k k1 k2))
   have hg:go s false (s.length + 1 - i) ⟨i,m,nd,nm,dp,false,dg,tr⟩=go s false (s.length + 1 - i - 1) ⟨i + 1,m,nd,nm,nd,true,dg,tr⟩:=by
     obtain ⟨g,hg⟩:∃ g,s.length + 1 - i=g + 1:=⟨s.length - i,by omega⟩
     rw [hg,go,if_pos (by simp only;omega)]
     simp only
     rw [h46,Rf.step_dot]
     rfl
   simp only at u2 u3 u4
   have hd:digs s false 0=u:=by
     unfold digs;rw [t1,hg,u1]
     refine go_halt _ _ _ _ fun hl=>?_
     rcases he with e | ⟨e1,e2⟩
     · omega
     · obtain ⟨ui,um,und,unm,udp,udt,udg,utr⟩:=u
       simp only at u2
       subst u2
       exact Rf.step_none e1 e2 rfl
   rw [hd]
   refine ⟨u2,?_⟩
   rw [u4,t4]
   rcases Nat.eq_zero_or_pos i with e | e
   · have:0 < B:=by omega
     simp [this]
   · simp [e]
theorem runGo_all (set:List UInt8) (s:List UInt8) (h:runGo set s=s.length):∀ k,k < s.length→∃ b,b.toNat=by8 s k∧set.contains b=true:=fun k hk=>runGo_at set s k (by omega)
theorem unsign_cons (b:UInt8) (q:List UInt8):unsign (b :: q)=if b=43∨b=45 then q else b :: q:=rfl
theorem exp_ok {s:List UInt8} {M:Nat} {c:UInt8} {r:List UInt8} (hs:s.drop M=c :: r) (he:expEnd (c :: r)=true):(by8 s M=101∨by8 s M=69)∧IsEx s false M∧(∀ k,M < k→k < s.length→digC (by8 s k)=true∨by8 s k=43∨by8 s k=45):=by
 have hl:(s.drop M).length=r.length + 1:=by rw [hs,List.length_cons]
 rw [List.length_drop] at hl
 have hM:M < s.length:=by omega
 have hc:by8 s M=c.toNat:=by rw [← Nat.add_zero M,← by8_drop,hs];rfl
 have hr:∀ k,by8 s (M + 1 + k)=by8 r k:=fun k=>by rw [show M + 1 + k=M + (k + 1) by omega,← by8_drop,hs,by8_cons]
 unfold expEnd at he
 simp only at he
 split at he
 · rename_i hce
   rw [decide_eq_true_eq] at he
   have hc2:c.toNat=101∨c.toNat=69:=by rcases hce with h | h <;> rw [h] <;> decide
   have h32:by8 s M ||| 32=101:=by rw [hc];rcases hc2 with h | h <;> rw [h] <;> rfl
   refine ⟨by rw [hc];exact hc2,?_,?_⟩
   · -- behind the sign
     cases r with
     | nil=>exact absurd he.1 (by decide)
     | cons b q =>
       have hb:by8 s (M + 1)=b.toNat:=by rw [← Nat.add_zero (M + 1),hr];rfl
       have hq:∀ k,by8 s (M + 2 + k)=by8 q k:=fun k=>by rw [show M + 2 + k=M + 1 + (k + 1) by omega,hr,by8_cons]
       rw [List.length_cons] at hl
       by_cases hsg:b=43∨b=45
       · have hu:unsign (b :: q)=q:=by rw [unsign_cons,if_pos hsg]
         rw [hu] at he
         have hat:exAt s M=M + 2:=by
           unfold exAt;rw [if_pos (by rw [hb];rcases hsg with h | h <;> rw [h] <;> decide)]
         have hall:=runGo_all digits q he.2
         refine ⟨hM,h32,by rw [hat];omega,fun k k1 k2=>?_⟩
         rw [hat] at k1
         obtain ⟨d,d1,d2⟩:=hall (k - (M + 2)) (by omega)
         rw [← hq,show M + 2 + (k - (M + 2))=k by omega] at d1
         rw [← d1];exact dig_in d d2
       · have hu:unsign (b :: q)=b :: q:=by rw [unsign_cons,if_neg hsg]
         rw [hu] at he
         have hat:exAt s M=M + 1:=by
           unfold exAt
           rw [if_neg (by
             rw [hb];intro h
             rcases h with h | h
             · exact hsg (.inl (UInt8.toNat_inj.1 (by rw [h];rfl)))
             · exact hsg (.inr (UInt8.toNat_inj.1 (by rw [h];rfl))))]
         have hall:=runGo_all digits (b :: q) he.2
         refine ⟨hM,h32,by rw [hat];omega,fun k k1 k2=>?_⟩
         rw [hat] at k1
         obtain ⟨d,d1,d2⟩:=hall (k - (M + 1)) (by rw [List.length_cons];omega)
         rw [← hr,show M + 1 + (k - (M + 1))=k by omega] at d1
         rw [← d1];exact dig_in d d2
   · intro k k1 k2
     cases r with
     | nil=>exact absurd he.1 (by decide)
     | cons b q =>
       have hb:by8 s (M + 1)=b.toNat:=by rw [← Nat.add_zero (M + 1),hr];rfl
       rw [List.length_cons] at hl
       by_cases hsg:b=43∨b=45
       · have hu:unsign (b :: q)=q:=by rw [unsign_cons,if_pos hsg]
         rw [hu] at he
         rcases (show k=M + 1∨M + 2≤k by omega) with e | e
         · right
           rw [e,hb]
           rcases hsg with h | h <;> rw [h] <;> decide
         · left
           have hall:=runGo_all digits q he.2
           obtain ⟨d,d1,d2⟩:=hall (k - (M + 2)) (by omega)
           rw [← by8_cons b,← hr,show M + 1 + (k - (M + 2) + 1)=k by omega] at d1
           rw [← d1];exact dig_in d d2
       · have hu:unsign (b :: q)=b :: q:=by rw [unsign_cons,if_neg hsg]
         rw [hu] at he
         left
         have hall:=runGo_all digits (b :: q) he.2
         obtain ⟨d,d1,d2⟩:=hall (k - (M + 1)) (by rw [List.length_cons];omega)
         rw [← hr,show M + 1 + (k - (M + 1))=k by omega] at d1
         rw [← d1];exact dig_in d d2
 · cases he
theorem drop_head {s:List UInt8} {M:Nat} {c:UInt8} {r:List UInt8} (hs:s.drop M=c :: r):M < s.length∧by8 s M=c.toNat∧∀ k,by8 s (M + 1 + k)=by8 r k:=by
 have hl:(s.drop M).length=r.length + 1:=by rw [hs,List.length_cons]
 rw [List.length_drop] at hl
 refine ⟨by omega,by rw [← Nat.add_zero M,← by8_drop,hs];rfl,fun k=>by rw [show M + 1 + k=M + (k + 1) by omega,← by8_drop,hs,by8_cons]⟩
theorem dig_byte {c:Nat} (h:digC c=true):48≤c∧c≤57:=by simpa [digC] using h
theorem runGo_stop (set:List UInt8):∀ (s:List UInt8) (c:UInt8) (r:List UInt8),s.drop (runGo set s)=c :: r→set.contains c=false
 | [],c,r,h=>by simp [runGo] at h
 | b :: q,c,r,h=>by
   rw [runGo] at h
   split at h
   · rw [List.drop_succ_cons] at h;exact runGo_stop set q c r h
   · rename_i hc
     rw [List.drop_zero] at h
     cases h
     simpa using hc
theorem dec_shape {s:List UInt8} (h:decimal s=true):∃ M,M≤s.length∧(digs s false 0).i=M∧(digs s false 0).dig=true∧(M=s.length∨IsEx s false M)∧0 < s.length ∧
   (∀ k,k < s.length→digC (by8 s k)=true∨by8 s k=46∨by8 s k=101∨by8 s k=69∨by8 s k=43∨by8 s k=45)∧(digC (by8 s 0)=true∨by8 s 0=46)∧(digC (by8 s 1)=true∨by8 s 1=46∨by8 s 1=101∨by8 s 1=69∨by8 s 0=46∨by8 s 1=0):=by
 unfold decimal at h
 split at h
 · cases h
 · rename_i h0
   obtain ⟨A,hA⟩:∃ A,runGo digits s=A:=⟨_,rfl⟩
   have hAl:=runGo_le digits s
   have hAd:∀ k,k < A→digC (by8 s k)=true:=fun k hk=>by
     obtain ⟨b,b1,b2⟩:=runGo_at digits s k (by omega)
     rw [← b1];exact dig_in b b2
   have hM:mantEnd s=(match s.drop A with | []=>(A,[]) | b :: r=>if b=46 then (A + runGo digits r,r.drop (runGo digits r)) else (A,b :: r)):=by
     unfold mantEnd;rw [hA];rfl
   rw [hA] at hAl
   rw [hM] at h0 h
   have hst:=runGo_stop digits s
   rw [hA] at hst
   cases hd:s.drop A with
   | nil =>
     rw [hd] at h0 h
     simp only at h0 h
     have hAe:A=s.length:=by
       have:(s.drop A).length=0:=by rw [hd];rfl
       rw [List.length_drop] at this;omega
     obtain ⟨p1,-⟩:=digs_dec s A hAl hAd
     obtain ⟨q1,q2⟩:=p1 (by omega) (.inl hAe)
     refine ⟨A,hAl,q1,q2,.inl hAe,by omega,fun k hk=>.inl (hAd k (by omega)),.inl (hAd 0 (by omega)),?_⟩
     rcases (show 1 < A∨A=1 by omega) with e | e
     · exact .inl (hAd 1 e)
     · exact .inr (.inr (.inr (.inr (.inr (by8_out s (by omega))))))
   | cons b r =>
     rw [hd] at h0 h
     simp only at h0 h
     obtain ⟨d1,d2,d3⟩:=drop_head hd
     by_cases hb:b=46
     · rw [if_pos hb] at h0 h
       simp only at h0 h
       have hb46:by8 s A=46:=by rw [d2,hb];rfl
       obtain ⟨B,hB⟩:∃ B,runGo digits r=B:=⟨_,rfl⟩
       have hBl:=runGo_le digits r
       have hBd:∀ k,k < B→digC (by8 r k)=true:=fun k hk=>by
         obtain ⟨b,b1,b2⟩:=runGo_at digits r k (by omega)
         rw [← b1];exact dig_in b b2
       have hst2:=runGo_stop digits r
       rw [hB] at h0 h hBl hst2
       have hrl:r.length=s.length - A - 1:=by
         have:=congrArg List.length hd
         rw [List.length_drop,List.length_cons] at this;omega
       have hBd2:∀ k,A + 1≤k→k < A + 1 + B→digC (by8 s k)=true:=fun k k1 k2=>by
         have:=hBd (k - (A + 1)) (by omega)
         rw [← d3,show A + 1 + (k - (A + 1))=k by omega] at this;exact this
       have hdr:s.drop (A + 1 + B)=r.drop B:=by
         rw [← List.drop_drop,show s.drop (A + 1)=r by rw [← List.drop_drop,hd];rfl]
       obtain ⟨-,p2⟩:=digs_dec s A hAl hAd
       have head0:digC (by8 s 0)=true∨by8 s 0=46:=by
         rcases Nat.eq_zero_or_pos A with e | e
         · right;rw [e] at hb46;exact hb46
         · exact .inl (hAd 0 e)
       have head1:digC (by8 s 1)=true∨by8 s 1=46∨by8 s 1=101∨by8 s 1=69∨by8 s 0=46∨by8 s 1=0:=by
         rcases (show A=0∨A=1∨1 < A by omega) with e | e | e
         · rw [e] at hb46;exact .inr (.inr (.inr (.inr (.inl hb46))))
         · rw [e] at hb46;exact .inr (.inl hb46)
         · exact .inl (hAd 1 e)
       cases hr:r.drop B with
       | nil =>
         have hBe:A + 1 + B=s.length:=by
           have:(r.drop B).length=0:=by rw [hr];rfl
           rw [List.length_drop] at this;omega
         obtain ⟨q1,q2⟩:=p2 B hb46 (by omega) (by omega) hBd2 (.inl hBe)
         refine ⟨A + 1 + B,by omega,q1,q2,.inl hBe,by omega,fun k hk=>?_,head0,head1⟩
         rcases (show k < A∨k=A∨A + 1≤k by omega) with e | e | e
         · exact .inl (hAd k e)
         · rw [e];exact .inr (.inl hb46)
         · exact .inl (hBd2 k e (by omega))
       | cons c q =>
         rw [hr] at h
         rw [← hdr] at hr
         obtain ⟨e1,e2,e3⟩:=exp_ok hr h
         obtain ⟨g1,g2,g3⟩:=drop_head hr
         have hne:by8 s (A + 1 + B)≠46∧digC (by8 s (A + 1 + B))=false:=by
           rcases e1 with h | h <;> rw [h] <;> decide
         obtain ⟨q1,q2⟩:=p2 B hb46 (by omega) (by omega) hBd2 (.inr hne)
         refine ⟨A + 1 + B,by omega,q1,q2,.inr e2,by omega,fun k hk=>?_,head0,head1⟩
         rcases (show k < A∨k=A∨(A + 1≤k∧k < A + 1 + B)∨k=A + 1 + B∨A + 1 + B < k by omega) with e | e | e | e | e
         · exact .inl (hAd k e)
         · rw [e];exact .inr (.inl hb46)
         · exact .inl (hBd2 k e.1 e.2)
         · rw [e];rcases e1 with h | h
           · exact .inr (.inr (.inl h))
           · exact .inr (.inr (.inr (.inl h)))
         · rcases e3 k e hk with h | h | h
           · exact .inl h
           · exact .inr (.inr (.inr (.inr (.inl h))))
           · exact .inr (.inr (.inr (.inr (.inr h))))
     · rw [if_neg hb] at h0 h
       simp only at h0 h
       obtain ⟨e1,e2,e3⟩:=exp_ok hd h
       have hne:by8 s A≠46∧digC (by8 s A)=false:=by
         rcases e1 with h | h <;> rw [h] <;> decide
       obtain ⟨p1,-⟩:=digs_dec s A hAl hAd
       obtain ⟨q1,q2⟩:=p1 (by omega) (.inr hne)
       refine ⟨A,hAl,q1,q2,.inr e2,by omega,fun k hk=>?_,.inl (hAd 0 (by omega)),?_⟩
       · rcases (show k < A∨k=A∨A < k by omega) with e | e | e
         · exact .inl (hAd k e)
         · rw [e];rcases e1 with h | h
           · exact .inr (.inr (.inl h))
           · exact .inr (.inr (.inr (.inl h)))
         · rcases e3 k e hk with h | h | h
           · exact .inl h
           · exact .inr (.inr (.inr (.inr (.inl h))))
           · exact .inr (.inr (.inr (.inr (.inr h))))
       · rcases (show A=1∨1 < A by omega) with e | e
         · rw [e] at e1;rcases e1 with h | h
           · exact .inr (.inr (.inl h))
           · exact .inr (.inr (.inr (.inl h)))
         · exact .inl (hAd 1 e)
theorem dec_whole {s:List UInt8} (h:decimal s=true):Whole s false 0∧Rf.hexAt s 0=false∧Rf.sgn s=0∧(∀ i,by8 s i≠95)∧0 < s.length∧(∀ c,c=43∨c=45∨c=105∨c=73∨c=110∨c=78→by8 s 0≠c)∧¬ (by8 s 0=48∧(by8 s 1 ||| 32)=120):=by
 obtain ⟨M,h1,h2,h3,h4,h5,h6,h7,h8⟩:=dec_shape h
 have hx:¬ (by8 s 0=48∧(by8 s 1 ||| 32)=120):=by
   intro ⟨e1,e2⟩
   rcases h8 with g | g | g | g | g | g
   · have:=dig_byte g
     have hall:∀ n,n < 58→48≤n→n ||| 32≠120:=by decide
     exact hall _ (by omega) (by omega) e2
   · rw [g] at e2;revert e2;decide
   · rw [g] at e2;revert e2;decide
   · rw [g] at e2;revert e2;decide
   · omega
   · rw [g] at e2;revert e2;decide
 have hd:∀ c,c=43∨c=45∨c=105∨c=73∨c=110∨c=78→by8 s 0≠c:=by
   intro c hc e
   rcases h7 with g | g
   · have:=dig_byte g;omega
   · omega
 refine ⟨⟨h3,?_⟩,?_,?_,?_,h5,hd,hx⟩
 · rw [h2]
   rcases h4 with e | e
   · exact .inl ⟨e,rfl⟩
   · exact .inr e
 · unfold Rf.hexAt
   by_cases g1:by8 s 0=48
   · have:(by8 s 1 ||| 32 == 120)=false:=by rw [beq_eq_false_iff_ne];exact fun e=>hx ⟨g1,e⟩
     rw [this];simp
   · rw [show (by8 s 0 == 48)=false by rw [beq_eq_false_iff_ne];exact g1];simp
 · unfold Rf.sgn
   rw [if_neg (fun h=>by rcases h with h | h;exact hd 43 (by simp) h;exact hd 45 (by simp) h)]
 · intro i
   rcases Nat.lt_or_ge i s.length with hi | hi
   · rcases h6 i hi with g | g | g | g | g | g
     · have:=dig_byte g;omega
     all_goals (rw [g];decide)
   · rw [by8_out s hi];decide
end Nm
namespace Nm
open Rf (digC hexC digs Whole IsEx exAt)
theorem by8_app (s t:List UInt8) {k:Nat} (h:k < s.length):by8 (s ++ t) k=by8 s k:=by
 unfold by8;rw [List.getD_eq_getElem?_getD,List.getD_eq_getElem?_getD,List.getElem?_append_left h]
theorem by8_app2 (s t:List UInt8) (k:Nat):by8 (s ++ t) (s.length + k)=by8 t k:=by
 unfold by8;rw [List.getD_eq_getElem?_getD,List.getD_eq_getElem?_getD,List.getElem?_append_right (by omega),Nat.add_sub_cancel_left]
theorem hex_digs {s:List UInt8} (h:isHex s=true):(digs (s ++ [112,48]) true 2).i=s.length∧(digs (s ++ [112,48]) true 2).dot=false:=by
 unfold isHex at h
 rw [decide_eq_true_eq] at h
 obtain ⟨h1,h2,h3,h4⟩:=h
 have hl:(s ++ [112,48]).length=s.length + 2:=by rw [List.length_append];rfl
 have a2:by8 (s ++ [112,48]) s.length=112:=by rw [← Nat.add_zero s.length,by8_app2];rfl
 have hx:∀ k,2≤k→k < s.length→digC (by8 (s ++ [112,48]) k)=true∨(true=true∧digC (by8 (s ++ [112,48]) k)=false∧hexC (by8 (s ++ [112,48]) k)=true∧by8 (s ++ [112,48]) k≠46):=fun k k1 k2=>by
   rw [by8_app s _ k2]
   obtain ⟨b,b1,b2⟩:=runGo_at hexes (s.drop 2) (k - 2) (by omega)
   rw [by8_drop,show 2 + (k - 2)=k by omega] at b1
   rw [← b1]
   rcases hex_in b b2 with g | g
   · exact .inl g
   · exact .inr ⟨rfl,g⟩
 obtain ⟨t,t1,t2,t3,t4⟩:=go_over (s ++ [112,48]) true (s.length - 2) ((s ++ [112,48]).length + 1) (Rf.start 2) (by rw [hl];show 2 + (s.length - 2)≤_;omega) (by rw [hl];omega)
   (fun k k1 k2=>hx k k1 (by have:k < 2 + (s.length - 2):=k2;omega))
 have ti:t.i=s.length:=by rw [t2];show 2 + (s.length - 2)=_;omega
 have he:digs (s ++ [112,48]) true 2=t:=by
   unfold digs;rw [t1]
   refine go_halt _ _ _ _ fun _=>?_
   rw [ti,a2]
   obtain ⟨i,m,nd,nm,dp,dt,dg,tr⟩:=t
   exact Rf.step_none (by decide) (by decide) (by decide)
 rw [he]
 exact ⟨ti,t3⟩
theorem hex_whole {s:List UInt8} (h:isHex s=true):Whole (s ++ [112,48]) true 2∧Rf.hexAt (s ++ [112,48]) 0=true∧Rf.sgn (s ++ [112,48])=0∧(∀ i,by8 (s ++ [112,48]) i≠95)∧by8 (s ++ [112,48]) 0=48:=by
 unfold isHex at h
 rw [decide_eq_true_eq] at h
 obtain ⟨h1,h2,h3,h4⟩:=h
 have hl:(s ++ [112,48]).length=s.length + 2:=by rw [List.length_append];rfl
 have a0:by8 (s ++ [112,48]) 0=48:=by rw [by8_app s _ (by omega)];exact h2
 have a1:by8 (s ++ [112,48]) 1 ||| 32=120:=by
   rw [by8_app s _ (by omega)]
   rcases h3 with h | h <;> rw [h] <;> rfl
 have a2:by8 (s ++ [112,48]) s.length=112:=by rw [← Nat.add_zero s.length,by8_app2];rfl
 have a3:by8 (s ++ [112,48]) (s.length + 1)=48:=by rw [by8_app2];rfl
 have hx:∀ k,2≤k→k < s.length→digC (by8 (s ++ [112,48]) k)=true∨(true=true∧digC (by8 (s ++ [112,48]) k)=false∧hexC (by8 (s ++ [112,48]) k)=true∧by8 (s ++ [112,48]) k≠46):=fun k k1 k2=>by
   rw [by8_app s _ k2]
   obtain ⟨b,b1,b2⟩:=runGo_at hexes (s.drop 2) (k - 2) (by omega)
   rw [by8_drop,show 2 + (k - 2)=k by omega] at b1
   rw [← b1]
   rcases hex_in b b2 with g | g
   · exact .inl g
   · exact .inr ⟨rfl,g⟩
 have hs:Rf.sgn (s ++ [112,48])=0:=by unfold Rf.sgn;rw [a0];rfl
 have hd:(digs (s ++ [112,48]) true 2).i=s.length∧(digs (s ++ [112,48]) true 2).dig=true:=by
   obtain ⟨t,t1,t2,t3,t4⟩:=go_over (s ++ [112,48]) true (s.length - 2) ((s ++ [112,48]).length + 1) (Rf.start 2) (by rw [hl];show 2 + (s.length - 2)≤_;omega) (by rw [hl];omega)
     (fun k k1 k2=>hx k k1 (by have:k < 2 + (s.length - 2):=k2;omega))
   have ti:t.i=s.length:=by rw [t2];show 2 + (s.length - 2)=_;omega
   have he:digs (s ++ [112,48]) true 2=t:=by
     unfold digs;rw [t1]
     refine go_halt _ _ _ _ fun _=>?_
     rw [ti,a2]
     obtain ⟨i,m,nd,nm,dp,dt,dg,tr⟩:=t
     exact Rf.step_none (by decide) (by decide) (by decide)
   rw [he]
   refine ⟨ti,?_⟩
   rw [t4]
   simp;omega
 have hat:exAt (s ++ [112,48]) s.length=s.length + 1:=by unfold exAt;rw [a3];rfl
 refine ⟨⟨hd.2,.inr ?_⟩,?_,hs,?_,a0⟩
 · rw [hd.1]
   refine ⟨by rw [hl];omega,by rw [a2];rfl,by rw [hat,hl];omega,fun k k1 k2=>?_⟩
   rw [hat] at k1
   rw [hl] at k2
   rw [show k=s.length + 1 by omega,a3]
   rfl
 · unfold Rf.hexAt
   rw [hl,a0,a1]
   simp;omega
 · intro i
   rcases (show i < s.length∨i=s.length∨i=s.length + 1∨s.length + 2≤i by omega) with e | e | e | e
   · rcases (show i=0∨i=1∨2≤i by omega) with g | g | g
     · rw [g,a0];decide
     · rw [g];intro h95;rw [h95] at a1;revert a1;decide
     · rcases hx i g e with q | ⟨-,q1,q2,q3⟩
       · have:=dig_byte q;omega
       · intro h95;rw [h95] at q2;revert q2;decide
   · rw [e,a2];decide
   · rw [e,a3];decide
   · rw [by8_out _ (by rw [hl];omega)];decide
theorem sub_nil (l:List UInt8) (a:Nat):sub l a a=[]:=by unfold sub;rw [Nat.sub_self,List.take_zero]
end Nm
end Go.Proofs.YtgdolcoiihagfaaGreatDoor
