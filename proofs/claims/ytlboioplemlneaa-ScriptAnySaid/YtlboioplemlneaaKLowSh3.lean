/- (no words more) -/
import Derived.Test.YtlboioplemlneaaKLowSh2
